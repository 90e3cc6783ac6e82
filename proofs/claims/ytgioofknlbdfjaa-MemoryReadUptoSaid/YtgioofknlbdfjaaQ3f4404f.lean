/- A part of the proof: texts joined. -/
import Derived.Test.YtgioofknlbdfjaaProg
import Derived.Shelf.Bits.Mul64
import Derived.Test.YtgioofknlbdfjaaQ22fa36f
/- Buffers: room appended, the beginning of one, from when on it stays; slice literals that are written as boxes; the walk's steps. -/
namespace Go.Proofs.Ytgioofknlbdfjaa
open Go.RowKit Rg
namespace Lf
section
variable {P : Program} {o : Oper} {env : Env}
/-- append of so many noughts onto what a buffer has. -/
theorem run_appZ {T Tx E ty n c k : Nat} {kd kx : IntKind} {ei : TI} (hu : P.underlying T = some (.slice E)) (hx : P.underlying Tx = some (.int kx)) (hE : TIok P E ei) (hp : 0 < ei.size) {a : Option Nat} {xs : List Value} {w : World} (hown : w.oRow 0 E ei.size (.slice (a.map fun b => ⟨b, 0, none⟩) n c) n xs) (hk : 0 < k) (hmax : n + k ≤ 140737488355328) (hb : (n + k) * ei.bytes ≤ 140737488355328) :
    ∃ v' w' news, (Builtin.append_ #[T, Tx] ty #[.slice (a.map fun b => ⟨b, 0, none⟩) n c, .int kd (k : Int)]).run P w = .ok v' w' ∧ w'.oRow 0 E ei.size v' (n + k) (xs ++ news) ∧ w.grownBy w' (Value.ownBlock (.slice (a.map fun b => ⟨b, 0, none⟩) n c)) ∧ AppR w w' a n c v' k ∧
      (∀ (j : Nat) x, news[j]? = some x → ∃ zz, ei.zero[j % ei.size]? = some zz ∧ zz.is x = true) ∧ (∀ u ∈ news, u.oneCell' = true) := by
  obtain ⟨i, hi, hsz, hby, z, hz, hzl, hzs, hzz, _⟩ := hE.info
  rw [← hsz] at hown hzs hp ⊢
  rw [← hby] at hb
  have h63 : n + k ≤ maxLen := by simp only [maxLen]; omega
  have hw : IntKind.i64.wrap (k : Int) = (k : Int) := wrap_i64 (by omega)
  have h2 : k * i.bytes ≤ (n + k) * i.bytes := Nat.mul_le_mul_right _ (by omega)
  have h4 : ¬ (281474976710656 < (k : Int) * (i.bytes : Int)) := by
    have : (k : Int) * (i.bytes : Int) = ((k * i.bytes : Nat) : Int) := by rw [Int.natCast_mul]
    rw [this]; omega
  have h5 : ¬ ((k : Int) < 0) := by omega
  have hks : ¬ (k * i.size = 0) := by have := Nat.mul_pos hk hp; omega
  have hks2 : ¬ (k = 0 ∨ i.size = 0) := by omega
  let news : List Value := (Builtin.zeroCells z.cells k).toList
  have hnl : news.length = k * i.size := by simp [news, size_zeroCells, hzs]
  have hng : ∀ (j : Nat) x, news[j]? = some x → ∃ zz, ei.zero[j % i.size]? = some zz ∧ zz.is x = true := fun j x hj => by
    have hjl := (List.getElem?_eq_some_iff.1 hj).1
    have hm : j % i.size < i.size := Nat.mod_lt _ hp
    have hzj : ei.zero[j % i.size]? = some (ei.zero[j % i.size]'(by rw [hzl, hzs]; exact hm)) := List.getElem?_eq_getElem _
    obtain ⟨y, hy, his⟩ := hzz _ _ hzj
    refine ⟨_, hzj, ?_⟩
    have : x = y := by
      simp only [news, Builtin.zeroCells, Array.toList_map, Array.toList_range, List.getElem?_map, hzs] at hj
      rw [List.getElem?_range (by rw [← hnl]; exact hjl)] at hj
      simp only [Option.map_some, Option.some.injEq] at hj
      rw [← hj]
      have hys : z.cells[j % i.size]? = some y := by simpa using hy
      rw [getElem!_def, hys]
    rw [this]; exact his
  have hone : ∀ u ∈ news, u.oneCell' = true := fun u hu => by
    obtain ⟨j, hj⟩ := List.getElem?_of_mem hu
    obtain ⟨zz, _, his⟩ := hng j u hj
    exact (Z.rep (w := w) (g := ⟨fun _ _ => True, fun _ => none, fun _ => none⟩) his).oneCell (Z.one zz)
  have hlen : (xs ++ news).length = (n + k) * i.size := by rw [List.length_append, hown.1, hnl, Nat.add_mul]
  have grown : ∀ (old : Nat) (row : Option Nat), old < n + k → ∀ rest : Array Value, rest.size = (grownCap w (n + k) old E - (n + k)) * i.size →
      (w.drew.alloc (.cells ((xs ++ news).toArray ++ rest) E)).oRow 0 E i.size
        (.slice (some ⟨w.heap.size, 0, none⟩) (n + k) (grownCap w (n + k) old E)) (n + k) (xs ++ news) ∧
      w.grownBy (w.drew.alloc (.cells ((xs ++ news).toArray ++ rest) E)) row := by
    intro old row ho rest hrest
    have hge := grownCap_ge w (n + k) old E
    have hcm : grownCap w (n + k) old E ≤ maxLen := grownCap_le_maxLen w (n + k) old E h63
    refine ⟨⟨hlen, .inr ⟨w.heap.size, _, _, _, rfl, Nat.zero_le _, heap_alloc_new w.drew _, hge, hcm, ?_, ?_, .inl rfl⟩⟩, ⟨rfl, rfl, rfl, by simp, fun q hq _ => heap_alloc_old w.drew _ hq⟩⟩
    · simp only [Array.size_append, List.size_toArray, hrest, hlen, ← Nat.add_mul]
      congr 1
      omega
    · simp only [Array.toList_append]
      rw [← hlen]
      exact List.take_left
  have hnew : ∀ (rest : Array Value), ∀ q, q < w.heap.size → (w.drew.alloc (.cells ((xs ++ news).toArray ++ rest) E)).heap[q]? = w.heap[q]? := fun rest q hq => heap_alloc_old w.drew _ hq
  have growr : ∀ (base : Option Addr) (sCap : Nat), sCap < n + k → (Builtin.firstCells i.size n (.slice base n sCap)).run P w.drew = .ok xs.toArray w.drew →
      (Builtin.append_ #[T, Tx] ty #[.slice base n sCap, .int kd (k : Int)]).run P w = .ok (.slice (some ⟨w.heap.size, 0, none⟩) (n + k) (grownCap w (n + k) sCap E)) (w.drew.alloc (.cells ((xs ++ news).toArray ++ Builtin.zeroCells z.cells (grownCap w (n + k) sCap E - (n + k))) E)) := by
    intro base sCap hlt hfc
    have hroom : ¬ (n + k ≤ sCap) := by omega
    have hfit := growslice_fits (old := sCap) (need := n + k) hlt hb
    have h63' : ¬ (9223372036854775807 < (n : Int) + (k : Int)) := by omega
    have h48' : ¬ (281474976710656 < Builtin.nextslicecap (n + k) sCap * i.bytes) := by omega
    simp [Builtin.append_, run_underlying hu, run_underlying hx, sizeOf, typeInfo, zeroValue, hi, hz, asInt, asIntOf, hw, h4, h5, hks2, hroom, h63', h48', Question.forced, hfc, newRow, grownCap]
    rw [if_neg hks]
    congr 2
    congr 1
    apply Array.ext'
    simp [news, List.append_assoc]
  rcases hown.2 with ⟨hv, hn0⟩ | ⟨g, cap, cur, fz, hv, hbg, hg, hnc, hcm, hcs, htake, hfz⟩
  · subst hn0
    have ha : a = none := by cases a with | none => rfl | some b => simp at hv
    subst ha
    have hc0 : c = 0 := by simpa using hv
    subst hc0
    have hx0 : xs = [] := List.eq_nil_of_length_eq_zero (by simpa using hown.1)
    have hr := growr none 0 (by omega) (by subst hx0; simp [Builtin.firstCells])
    obtain ⟨g1, g2⟩ := grown 0 (Value.ownBlock (.slice none 0 0)) (by omega) (Builtin.zeroCells z.cells (grownCap w (0 + k) 0 E - (0 + k))) (by simp [size_zeroCells, hzs])
    exact ⟨_, _, news, hr, g1, g2, .inr ⟨hk, _, rfl, by simp, hnew _⟩, hng, hone⟩
  · have ha : a = some g ∧ cap = c := by
      cases a with
      | none => simp at hv
      | some b => simp at hv; exact ⟨by rw [hv.1], hv.2.symm⟩
    obtain ⟨rfl, rfl⟩ := ha
    rcases Nat.lt_or_ge cap (n + k) with hroom | hroom
    · have hr := growr (some ⟨g, 0, none⟩) cap hroom (run_firstCells_some w.drew i.size n ⟨g, 0, none⟩ n cap xs hown.1 (fun j u hj => by simpa using oRow_cells hown (g := g) rfl j u hj))
      obtain ⟨g1, g2⟩ := grown cap (Value.ownBlock (.slice (some ⟨g, 0, none⟩) n cap)) hroom (Builtin.zeroCells z.cells (grownCap w (n + k) cap E - (n + k))) (by simp [size_zeroCells, hzs])
      exact ⟨_, _, news, hr, g1, g2, .inr ⟨by omega, _, rfl, by simp, hnew _⟩, hng, hone⟩
    · have hfit : n * i.size + news.length ≤ cur.size := by rw [hnl, hcs, ← Nat.add_mul]; exact Nat.mul_le_mul_right _ hroom
      have hcell : ∀ j, j < news.length → (w.cell? ⟨g, n * i.size + j, none⟩).isSome = true := fun j hj => by
        rw [cell_of_row w g _ cur E fz hg]
        simp; omega
      have hfro : ∀ j, j < news.length → w.frozen? ⟨g, n * i.size + j, none⟩ = false := fun j hj => frozen_oRow hg hfz (by omega)
      have hw' : w.setCells g (n * i.size) news = w.setRow g (cur.toList.take (n * i.size) ++ news ++ cur.toList.drop (n * i.size + news.length)).toArray := by
        have r1 := Lf.run_storeCells_free (P := P) g (n * i.size) E fz news 0 cur w hg hfz (by simpa using hfit) hone
        have r2 := run_storeCells_cells (P := P) g (n * i.size) news 0 w (fun j hj => by simpa using hcell j hj) (fun j hj => by simpa using hfro j hj) hone
        rw [r1] at r2
        simp only [Nat.add_zero] at r2
        exact ((Result.ok.inj r2).2).symm
      have hst := run_storeCells_cells (P := P) g (n * i.size) news 0 w (fun j hj => by simpa using hcell j hj) (fun j hj => by simpa using hfro j hj) hone
      simp only [Nat.add_zero] at hst
      have hr : (Builtin.append_ #[T, Tx] ty #[.slice (some ⟨g, 0, none⟩) n cap, .int kd (k : Int)]).run P w = .ok (.slice (some ⟨g, 0, none⟩) (n + k) cap) (w.setCells g (n * i.size) news) := by
        simp [Builtin.append_, run_underlying hu, run_underlying hx, sizeOf, typeInfo, zeroValue, hi, hz, asInt, asIntOf, hw, h4, h5, hks2, hroom, Addr.add_lit]
        rw [if_neg hks, show (Builtin.zeroCells z.cells k).toList = news from rfl, hst]
        rfl
      rw [hw'] at hr
      refine ⟨_, _, news, hr, ⟨hlen, .inr ⟨g, cap, _, _, rfl, hbg, setRow_heap w g cur _ E _ hg, hroom, hcm, ?_, ?_, hfz.imp id fun h => ?_⟩⟩, ⟨rfl, rfl, rfl, by simp, fun q _ hq => setRow_other w g q _ (fun e => hq (by simp [Value.ownBlock, e]))⟩, .inl rfl, hng, hone⟩
      · simp only [List.size_toArray, List.length_append, List.length_take, List.length_drop, Array.length_toList]
        omega
      · rw [htake, ← hlen]
        exact List.take_left
      · simp only [List.size_toArray, List.length_append, List.length_take, List.length_drop, Array.length_toList]
        omega
theorem flat_rep {zv : V} {sz k j : Nat} {u : V} (hz : zv.cells.length = sz) (hp : 0 < sz) (h : ((List.replicate k zv).flatMap V.cells)[j]? = some u) : zv.cells[j % sz]? = some u := by
  obtain ⟨e, he, hu⟩ := flat_split hp (fun e he => by rw [List.eq_of_mem_replicate he]; exact hz) h
  rw [List.eq_of_mem_replicate (List.mem_of_getElem? he)] at hu
  exact hu
theorem Does.appMakeW {T Tx E i n k sz gen : Nat} {kd kx : IntKind} {x y : Operand} {z : Int} {es : List V} {zv : V} (X : TOk P) {ti xi ei : TI} (ho : o.op = .call { callee := .builtin .append, args := #[x, y], argTypes := #[T, Tx] }) (hx : evo env x = some (.w i gen sz 0 n)) (hy : evo env y = some (.k (.int kd z))) (hz : z = ((k : Nat) : Int)) (hT : aget X.tab T = some ti) (hd : ti.d = .sl E) (hX : aget X.tab Tx = some xi) (hdx : xi.d = .int kx) (hE : aget X.tab E = some ei) (hsz : ei.size = sz)
    (hn : es.length = n) (hk : 0 < k) (hmax : n + k ≤ 140737488355328) (hb : (n + k) * ei.bytes ≤ 140737488355328) (hzv : zv.cells = ei.zero.map Z.v) : Does P o env (.w i (gen + 1) sz 0 (n + k)) [(i, some (.w E sz gen es), some (.w E sz (gen + 1) (es ++ List.replicate k zv)))] := by
  subst hz; subst hsz; subst hn
  refine ⟨fun F g a w mem h1 h2 h3 h4 _ K Q hK => ?_⟩
  have hi := h4 _ _ _ mem_one
  have hrx := h1 x (by simp [ho, Op.operands, Call.operands]) _ hx
  have hry := rep_k (h1 y (by simp [ho, Op.operands, Call.operands]) _ hy)
  obtain ⟨ao, c, ad, e1, hB, hxx, e3, e4⟩ := rep_w h2 hi hrx
  have had := e4 (.inr rfl)
  simp only [Nat.zero_mul] at had
  subst had
  rw [Nat.sub_zero] at hxx
  obtain ⟨xs, hown, hrep⟩ := hB.own
  obtain ⟨v', w', news, hrun, hown', hg, hv, hnz, hone⟩ := run_appZ (P := P) (ty := o.type) (kd := kd) ((X.get hT).sl hd) ((X.get hX).int hdx) (X.get hE) hB.pos hown hk hmax hb
  obtain ⟨_, _, _, _, z0, _, hzl, hzs, _⟩ := (X.get hE).info
  have hzc : zv.cells.length = ei.size := by rw [hzv, List.length_map, hzl, hzs]
  have hcl : ∀ e ∈ es ++ List.replicate k zv, e.cells.length = ei.size ∧ ∀ u ∈ e.cells, u.one = true := fun e he => by
    rcases List.mem_append.1 he with he | he
    · exact hB.cells e he
    · rw [List.eq_of_mem_replicate he]
      refine ⟨hzc, fun u hu => ?_⟩
      rw [hzv] at hu
      obtain ⟨zz, _, rfl⟩ := List.mem_map.1 hu
      exact Z.one zz
  have hfl := flat_len fun e he => (hB.cells e he).1
  obtain ⟨g', a', c', rfl, k1, k2, k3, k4⟩ := h2.growW h3 (n := es.length) (m := k) (es' := es ++ List.replicate k zv) (xs := xs) (news := news) hi e1 (by simp) hcl hown' hg (fun g' he j u x hj hx' => by
    rw [List.flatMap_append] at hj
    rcases Nat.lt_or_ge j xs.length with hlt | hge
    · rw [List.getElem?_append_left (by rw [hfl, ← hown.1]; exact hlt)] at hj
      rw [List.getElem?_append_left hlt] at hx'
      exact (hrep j u x hj hx').mono he.bare
    · rw [List.getElem?_append_right (by rw [hfl, ← hown.1]; exact hge), hfl, ← hown.1] at hj
      rw [List.getElem?_append_right hge] at hx'
      obtain ⟨zz, hz1, hz2⟩ := hnz _ _ hx'
      have hu := flat_rep hzc hB.pos hj
      rw [hzv, List.getElem?_map, hz1] at hu
      cases hu
      exact Z.rep hz2) hv
  unfold Oper.wp
  have hrun' : (execOp a.eval o).run P w = .ok (.value (.slice (Option.map (fun b => ⟨b, 0, none⟩) a') (es.length + k) c')) w' := by
    simp [execOp, ho, resolve, invoke, builtin, hxx, hry, hrun]
  rw [hrun']
  refine hK _ g' w' k2 k3 k4 (.w ⟨a', gen + 1, c', k1, Nat.le_refl _, fun _ => ⟨?_, by omega, fun _ => by simp⟩⟩)
  obtain ⟨a2, c2, q1, q2⟩ := k3.buf (i := i) (aget_self _ _ _)
  rw [k1] at q1; cases q1
  have := (buf_le q2).1
  simp at this; omega
/-! ### From nil on; from when on it stays -/
section
variable {F : Fr0} {N : Nat} {Q : LQ} {mem : Mem}
theorem LC.nilbuf {c : Code} {cs : List V} (i j r E sz : Nat) (hi : aget mem i = some (.b cs)) (hj : cs[j]? = some .nil) (hr : aget mem r = none) (hne : r ≠ i) (hp : Nat.blt 0 sz = true) (h : LC P F N c Q env ((i, .b (cs.set j (.w r 0 sz 0 0))) :: (r, .w E sz 0 []) :: mem)) : LC P F N c Q env mem := ⟨fun g a w hrel => by
  have hown0 : w.oRow 0 E sz (.slice (Option.map (fun b => (⟨b, 0, none⟩ : Addr)) none) 0 0) 0 [] := oRow_nil w 0 E sz
  have hgi : (g.addRow r (none, 0, 0)).rw r = some (none, 0, 0) := by simp [Gh.addRow]
  obtain ⟨he, h2, h3⟩ := hrel.mem.nilRow hrel.kept (m := .w E sz 0 []) hr (.w hgi ⟨Nat.le_of_ble_eq_true hp, by simp, ⟨_, hown0, by simp⟩, fun _ h => by cases h⟩) fun b o ⟨l, c, hp⟩ => by rw [hgi] at hp; cases hp
  have hi2 : aget ((r, M.w E sz 0 []) :: mem) i = some (.b cs) := by rw [aget_ne hne]; exact hi
  obtain ⟨b, off, hb, hlt, hB⟩ := h2.box hi2
  have hjl := (List.getElem?_eq_some_iff.1 hj).1
  have hob : ObjAt (g.addRow r (none, 0, 0)) w i (.b (cs.set j (.w r 0 sz 0 0))) := .b hb hlt ⟨fun u hu => by
    rcases List.mem_or_eq_of_mem_set hu with hu | rfl
    · exact hB.one u hu
    · rfl, fun k u hk => by
    rw [List.getElem?_set] at hk
    by_cases e : j = k
    · subst e
      rw [if_pos rfl, if_pos hjl] at hk
      cases hk
      obtain ⟨a1, a2, x, a3, a4⟩ := hB.at_ j .nil hj
      cases a4
      exact ⟨a1, a2, _, a3, .w ⟨none, 0, 0, hgi, Nat.le_refl _, fun _ => ⟨Nat.le_refl _, rfl, fun _ => rfl⟩⟩⟩
    · rw [if_neg e] at hk
      exact hB.at_ k u hk⟩
  obtain ⟨k1, k2⟩ := h2.step h3 (i := i) (Ev.refl _ w) rfl rfl rfl (fun _ _ _ _ => ⟨rfl, rfl, fun hs => hs⟩) (fun _ _ _ => rfl) (fun _ _ => rfl) (fun _ _ => rfl) hob (fun b' o hp' => .inl ⟨_, hi2, by
    obtain ⟨off', q1, q2, q3⟩ := hp'
    exact ⟨off', q1, q2, by simpa using q3⟩⟩) h2.fut
  exact h.go _ a w ⟨fun t' v hv => by obtain ⟨x, h1, h4⟩ := hrel.env t' v hv; exact ⟨x, h1, h4.mono he⟩, k1, k2, hrel.defers, hrel.size, hrel.big⟩⟩
/-- A buffer that stays from now on. -/
theorem RelM.frzW {g : Gh} {w : World} (h2 : RelM F g mem w) (h3 : Kept F g w) {r E sz gen : Nat} {es : List V} (hr : aget mem r = some (.w E sz gen es)) :
    ∃ g', Ev g w g' w ∧ RelM F g' ((r, .x) :: mem) w ∧ Kept F g' w ∧ ∀ off n x, off + n ≤ es.length → Rep w g (.w r gen sz off n) x → Rep w g' (.s none ((es.drop off).take n)) x := by
  obtain ⟨a, c, hrw, hB⟩ := h2.buf hr
  cases a with
  | none =>
    obtain ⟨h0, hc0⟩ := buf_none hB
    subst h0; subst hc0
    obtain ⟨k1, k2⟩ := h2.step h3 (i := r) (m' := .x) (Ev.refl g w) rfl rfl rfl (fun _ _ _ _ => ⟨rfl, rfl, fun h => h⟩) (fun _ _ _ => rfl) (fun _ _ => rfl) (fun _ _ => rfl) .x (fun _ _ hp => hp.elim) h2.fut
    refine ⟨g, Ev.refl g w, k1, k2, fun off n x hn hx => ?_⟩
    simp at hn
    obtain ⟨rfl, rfl⟩ := hn
    obtain ⟨a', c', ad, e1, _, rfl, _, e4⟩ := rep_w h2 hr hx
    rw [hrw] at e1; cases e1
    have := e4 (.inr rfl)
    subst this
    exact .s0 fun _ h => by cases h
  | some b =>
    obtain ⟨hev, k1, k2⟩ := h2.frz h3 (i := r) (b := b) (off := 0) (n := es.length * sz) hr fun o _ _ => ⟨_, _, hrw⟩
    refine ⟨_, hev, k1, k2, fun off n x hn hx => ?_⟩
    obtain ⟨a', c', ad, e1, _, rfl, e3, e4⟩ := rep_w h2 hr hx
    rw [hrw] at e1; cases e1
    obtain ⟨xs, hown, hrep⟩ := hB.own
    have hes : ∀ e ∈ es, e.cells.length = sz := fun e he => (hB.cells e he).1
    have hcm := buf_le hB
    have hlen : ((es.drop off).take n).length = n := by simp; omega
    rcases Nat.lt_or_ge off c with hoc | hoc
    · have had := e4 (.inl hoc)
      subst had
      have hin : ∀ (j : Nat) u, (((es.drop off).take n).flatMap V.cells)[j]? = some u → (es.flatMap V.cells)[off * sz + j]? = some u := fun j u hj => by
        refine flat_cut off (off + n) hes ?_
        rw [Nat.add_sub_cancel_left]; exact hj
      simp only [Option.map_some]
      generalize hq : (es.drop off).take n = es' at *
      subst hlen
      refine .s (size := sz) (fun j => xs.getD (off * sz + j) undef) (by omega) (by omega) hB.pos (fun e he => hB.cells e (List.mem_of_mem_drop (List.mem_of_mem_take (hq ▸ he)))) (fun j u hj => ?_) (fun j u hj => ?_) fun _ h => by cases h
      · have hjc := hin j u hj
        have hjl := (List.getElem?_eq_some_iff.1 hjc).1
        rw [flat_len hes] at hjl
        have hjl2 : off * sz + j < xs.length := by rw [hown.1]; exact hjl
        refine ⟨hB.lt rfl, .inr ⟨rfl, Nat.zero_le _, by omega⟩, ?_⟩
        rw [own_cell hown hjl2, List.getD_eq_getElem?_getD, List.getElem?_eq_getElem hjl2]
        rfl
      · have hjc := hin j u hj
        have hjl := (List.getElem?_eq_some_iff.1 hjc).1
        rw [flat_len hes] at hjl
        have hjl2 : off * sz + j < xs.length := by rw [hown.1]; exact hjl
        rw [List.getD_eq_getElem?_getD, List.getElem?_eq_getElem hjl2]
        exact (hrep _ u _ hjc (List.getElem?_eq_getElem hjl2)).mono hev.bare
    · have hn0 : n = 0 := by omega
      subst hn0
      have hco : c - off = 0 := by omega
      rw [List.take_zero, hco]
      cases ad with
      | none => exact .s0 fun _ h => by cases h
      | some q => exact .se q fun _ h => by cases h
theorem LC.frzbuf {c : Code} {cs es es' : List V} {gen off n E sz : Nat} (i j r : Nat) (hi : aget mem i = some (.b cs)) (hj : cs[j]? = some (.w r gen sz off n)) (hr : aget mem r = some (.w E sz gen es)) (hne : r ≠ i) (hn : off + n ≤ es.length) (he : (es.drop off).take n = es') (h : LC P F N c Q env ((i, .b (cs.set j (.s none es'))) :: (r, .x) :: mem)) : LC P F N c Q env mem := ⟨fun g a w hrel => by
  subst he
  obtain ⟨g', hev, h2, h3, hrp⟩ := hrel.mem.frzW hrel.kept hr
  have hi2 : aget ((r, M.x) :: mem) i = some (.b cs) := by rw [aget_ne hne]; exact hi
  obtain ⟨b0, off0, hb0, _, hB0⟩ := hrel.mem.box hi
  obtain ⟨b, bo, hb, hlt, hB⟩ := h2.box hi2
  have hb1 := hev.bx _ _ hb0
  rw [hb] at hb1; cases hb1
  have hjl := (List.getElem?_eq_some_iff.1 hj).1
  have hob : ObjAt g' w i (.b (cs.set j (.s none ((es.drop off).take n)))) := .b hb hlt ⟨fun u hu => by
    rcases List.mem_or_eq_of_mem_set hu with hu | rfl
    · exact hB.one u hu
    · rfl, fun k u hk => by
    rw [List.getElem?_set] at hk
    by_cases e : j = k
    · subst e
      rw [if_pos rfl, if_pos hjl] at hk
      cases hk
      obtain ⟨a1, a2, x, a3, _⟩ := hB.at_ j _ hj
      obtain ⟨_, _, x', b3, b4⟩ := hB0.at_ j _ hj
      rw [a3] at b3; cases b3
      exact ⟨a1, a2, _, a3, hrp off n x hn b4⟩
    · rw [if_neg e] at hk
      exact hB.at_ k u hk⟩
  obtain ⟨k1, k2⟩ := h2.step h3 (i := i) (Ev.refl _ w) rfl rfl rfl (fun _ _ _ _ => ⟨rfl, rfl, fun hs => hs⟩) (fun _ _ _ => rfl) (fun _ _ => rfl) (fun _ _ => rfl) hob (fun b' o hp' => .inl ⟨_, hi2, by
    obtain ⟨off', q1, q2, q3⟩ := hp'
    exact ⟨off', q1, q2, by simpa using q3⟩⟩) h2.fut
  exact h.go _ a w ⟨fun t' v hv => by obtain ⟨x, h1, h4⟩ := hrel.env t' v hv; exact ⟨x, h1, h4.mono hev⟩, k1, k2, hrel.defers, hrel.size, hrel.big⟩⟩
/-- The same for a slot. -/
theorem LC.frztmp {c : Code} {es es' : List V} {gen off n E sz : Nat} (t r : Nat) (ht : aget env t = some (.w r gen sz off n)) (hr : aget mem r = some (.w E sz gen es)) (hn : off + n ≤ es.length) (he : (es.drop off).take n = es') (h : LC P F N c Q ((t, .s none es') :: env) ((r, .x) :: mem)) : LC P F N c Q env mem := ⟨fun g a w hrel => by
  subst he
  obtain ⟨g', hev, h2, h3, hrp⟩ := hrel.mem.frzW hrel.kept hr
  refine h.go _ a w ⟨fun t' v hv => ?_, h2, h3, hrel.defers, hrel.size, hrel.big⟩
  rw [aget_cons] at hv
  split at hv
  · rename_i e; subst e; cases hv
    obtain ⟨x, h1, h4⟩ := hrel.env _ _ ht
    exact ⟨x, h1, hrp off n x hn h4⟩
  · obtain ⟨x, h1, h4⟩ := hrel.env t' v hv; exact ⟨x, h1, h4.mono hev⟩⟩
end
/-! ### Slice literals that are written: boxes -/
/-- The slice literal of slot d is written later: it is a box. -/
structure BoxLit (d : Nat) : Prop where
  t : True
theorem Does.buildSliceB {T E i len : Nat} {ps : List (Nat × Operand)} {vs : List (Nat × V)} {es cs : List V} (X : TOk P) {ti ei : TI} (ho : o.op = .buildSlice T len ps.toArray) (_hb : BoxLit i) (hT : aget X.tab T = some ti) (hd : ti.d = .sl E) (hE : aget X.tab E = some ei) (hpos : Nat.blt 0 ei.size = true) (hv : evp env ps = some vs) (hde : dense 0 vs = some es)
    (hlen : Nat.beq es.length len = true) (h0 : Nat.blt 0 len = true) (hsm : Nat.ble (len * ei.size) 16777216 = true) (hs : ∀ e ∈ es, e.cells.length = ei.size) (ho1 : (es.all V.ok) = true) (hcs : es.flatMap V.cells = cs) : Does P o env (.sb i 0 len len) [(i, none, some (.b cs))] := by
  subst hcs
  refine ⟨fun F g a w mem h1 h2 h3 h4 _ K Q hK => ?_⟩
  obtain rfl := (Nat.eq_of_beq_eq_true hlen).symm
  have h0 : 0 < es.length := Nat.le_of_ble_eq_true h0
  have hp := evp_rep (w := w) (g := g) (a := a) hv (fun x hx u hu => h1 x (by simpa [ho, Op.operands] using hx) u hu)
  obtain ⟨d1, d2, d3, d4⟩ := dense_spec hp hde
  have hpos' : 0 < ei.size := Nat.le_of_ble_eq_true hpos
  have hsm' := Nat.le_of_ble_eq_true hsm
  obtain ⟨ie, hie, hse, _, z, hz, _, hzs, _⟩ := (X.get hE).info
  have hu := (X.get hT).sl hd
  have key : ∃ xs : Array Value, (execOp a.eval o).run P w = .ok (.value (.slice (some ⟨w.heap.size, 0, none⟩) es.length es.length)) (w.alloc (.cells xs E)) ∧ xs.size = es.length * ei.size ∧ (∀ e ∈ es, e.cells.length = ei.size ∧ ∀ u ∈ e.cells, u.one = true) ∧
      ∀ (j : Nat) u y, (es.flatMap V.cells)[j]? = some u → xs[j]? = some y → Rep w g.bare u y := by
    generalize hq : (ps.map fun (i, x) => (i, a.eval x)) = qs at hp d2 d3 d4
    have hone : ∀ (j : Nat) e, es[j]? = some e → ∀ u ∈ e.cells, u.one = true := fun j e hj => by
      have hjl := (List.getElem?_eq_some_iff.1 hj).1
      have hql : j < (qs.map (·.2)).length := by simp; omega
      exact (rep_cells (d4 j e _ hj (List.getElem?_eq_getElem hql)) (List.all_eq_true.1 ho1 e (List.mem_of_getElem? hj))).2.1
    have hone' : ∀ e ∈ es, e.cells.length = ei.size ∧ ∀ u ∈ e.cells, u.one = true := fun e he => by
      obtain ⟨j, hj⟩ := List.getElem?_of_mem he
      exact ⟨hs e he, hone j e hj⟩
    have hcz : ∀ v ∈ qs.map (·.2), v.cells.size = ei.size := fun v hv' => by
      obtain ⟨j, hj⟩ := List.getElem?_of_mem hv'
      have hjl := (List.getElem?_eq_some_iff.1 hj).1
      have hje : j < es.length := by simp at hjl; omega
      have hme := List.getElem_mem hje
      obtain ⟨c1, _, _⟩ := rep_cells (d4 j _ _ (List.getElem?_eq_getElem hje) hj) (List.all_eq_true.1 ho1 _ hme)
      rw [← c1, hs _ hme]
    obtain ⟨r, r1, r2, r3⟩ := Great.fill_dense hpos' (qs.map (·.2)) 0 ((Array.range (es.length * ei.size)).map (z.cells[· % z.cells.size]!)) hcz (by simp; rw [d2, ← d1]; exact Nat.le_refl _)
    rw [← d3] at r1
    refine ⟨r, ?_, by rw [r2]; simp, hone', fun j u y hj hy => ?_⟩
    · have hb := run_buildSlice (P := P) w T E es.length (ps.toArray.map fun (i, x) => (i, a.eval x)) r ie z hu hie hz (by rw [hse]; omega) (by rw [hse]; have := Nat.mul_pos h0 hpos'; omega) (by rw [hse, ops_parts, hq]; exact r1)
      simp only [execOp, ho, Sem.run_bind, hb]
      rfl
    · obtain ⟨e, he, hue⟩ := flat_split hpos' hs hj
      have hjl := (List.getElem?_eq_some_iff.1 hj).1
      rw [flat_len hs] at hjl
      rw [r3 j] at hy
      have hel := (List.getElem?_eq_some_iff.1 he).1
      have hql : j / ei.size < (qs.map (·.2)).length := by simp; omega
      rw [if_pos ⟨by omega, by simp; rw [d2, ← d1]; exact hjl⟩, Nat.sub_zero, List.getElem?_eq_getElem hql] at hy
      exact (rep_cells (d4 _ e _ he (List.getElem?_eq_getElem hql)) (List.all_eq_true.1 ho1 e (List.mem_of_getElem? he))).2.2 _ u y hue (by simpa using hy)
  obtain ⟨xs, hrun, hxs, hs', hrep⟩ := key
  obtain ⟨g', k1, k2, k3, k4⟩ := h2.newBox h3 (i := i) (T := E) (cs := es.flatMap V.cells) (h4 _ _ _ mem_one) (by rw [flat_len hs, hxs]) (fun u hu => by obtain ⟨e, he, hu⟩ := List.mem_flatMap.1 hu; exact (hs' e he).2 u hu) (fun j u x hj hx => (hrep j u x hj hx).of_bare)
  unfold Oper.wp
  rw [hrun]
  refine hK _ g' _ k2 k3 k4 ?_
  have := Rep.sb (w := w.alloc (.cells xs E)) (off := 0) (n := es.length) (cap := es.length) k1
  simpa using this
end
end Lf
end Go.Proofs.Ytgioofknlbdfjaa

/- Structs of integers and of arrays of integers compared. -/
namespace Go.Proofs.Ytgioofknlbdfjaa
open Go.RowKit Rg
namespace Lf
/-- Cells that are integers of these kinds. -/
inductive KindsOf : List V → List IntKind → Prop
  | nil : KindsOf [] []
  | cons {k : IntKind} {z : Int} {cs : List V} {ks : List IntKind} (h : KindsOf cs ks) : KindsOf (.k (.int k z) :: cs) (k :: ks)
theorem KindsOf.maps {α : Type} {f : α → V} {k : IntKind} {g : α → Int} (hf : ∀ a, f a = .k (.int k (g a))) {cs : List V} {ks : List IntKind} (h : KindsOf cs ks) : ∀ {l : List α} {n : Nat}, l.length = n → KindsOf (l.map f ++ cs) (List.replicate n k ++ ks)
  | [], _, hn => by subst hn; exact h
  | a :: l, _, hn => by
    subst hn
    rw [List.map_cons, List.length_cons, List.replicate_succ, List.cons_append, List.cons_append, hf]
    exact .cons (KindsOf.maps hf h rfl)
theorem KindsOf.map1 {α : Type} {f : α → V} {k : IntKind} {g : α → Int} (hf : ∀ a, f a = .k (.int k (g a))) {l : List α} {n : Nat} (hn : l.length = n) : KindsOf (l.map f) (List.replicate n k) := by
  have := KindsOf.maps hf .nil hn
  rwa [List.append_nil, List.append_nil] at this
theorem KindsOf.app {a b : List V} {ks ls : List IntKind} (h : KindsOf a ks) (k : KindsOf b ls) : KindsOf (a ++ b) (ks ++ ls) := by
  induction h with
  | nil => exact k
  | cons _ ih => exact .cons ih
theorem KindsOf.spec {cs : List V} {ks : List IntKind} (h : KindsOf cs ks) : cs.length = ks.length ∧ ∀ (j : Nat) k, ks[j]? = some k → ∃ z, cs[j]? = some (.k (.int k z)) := by
  induction h with
  | nil => exact ⟨rfl, fun j k h => by simp at h⟩
  | cons _ ih =>
    refine ⟨by simp [ih.1], fun j k hj => ?_⟩
    cases j with
    | zero => simp at hj; subst hj; exact ⟨_, rfl⟩
    | succ j => simp at hj; simpa using ih.2 j k hj
def tyK (tab : Tab) (t : Nat) : Option (List IntKind) :=
  match aget tab t with
  | some ti => match ti.d with
    | .int k => cond (Nat.beq ti.size 1) (some [k]) none
    | .arr n e => match aget tab e with
      | some ei => match ei.d with
        | .int k => cond (Nat.beq ei.size 1 && Nat.beq ti.size n) (some (List.replicate n k)) none
        | _ => none
      | none => none
    | _ => none
  | none => none
def fldK (tab : Tab) : Nat → List (Nat × Nat) → Option (List IntKind)
  | _, [] => some []
  | off, (o, t) :: r => match cond (Nat.beq o off) (tyK tab t) none with
    | some ks => match fldK tab (off + ks.length) r with
      | some ks' => some (ks ++ ks')
      | none => none
    | none => none
section
variable {P : Program}
theorem part_i {T : Nat} {ti : TI} (h : TIok P T ti) (hd : ti.d.agg = false) {xs : Array Value} {off : Nat} {v : Value} (hx : xs[off]? = some v) (w : World) : (part T xs off).run P w = .ok v w := by
  simp only [part, Sem.run_bind, h.run_agg, hd, Result.andThen_ok]
  simp [hx]
theorem part_a {T : Nat} {ti : TI} (h : TIok P T ti) (hd : ti.d.agg = true) {xs : Array Value} {off : Nat} (hle : off + ti.size ≤ xs.size) (w : World) : (part T xs off).run P w = .ok (.agg (xs.extract off (off + ti.size))) w := by
  simp only [part, Sem.run_bind, h.run_agg, hd, Result.andThen_ok]
  simp [h.run_size]
/-- One field's part. -/
theorem eqPart (X : TOk P) {t : Nat} {ks : List IntKind} (hk : tyK X.tab t = some ks) {xs ys : Array Value} {f g : Nat → Int} {off : Nat} (hx : ∀ (j : Nat) k, ks[j]? = some k → xs[off + j]? = some (.int k (f (off + j)))) (hy : ∀ (j : Nat) k, ks[j]? = some k → ys[off + j]? = some (.int k (g (off + j)))) (d : Nat) (w : World) :
    ∃ a b r, (part t xs off).run P w = .ok a w ∧ (part t ys off).run P w = .ok b w ∧ (Op.equalIn (d + 2) t a b).run P w = .ok r w ∧ (r = true ↔ ∀ j, j < ks.length → f (off + j) = g (off + j)) := by
  unfold tyK at hk
  cases ht : aget X.tab t with
  | none => simp [ht] at hk
  | some ti =>
    simp only [ht] at hk
    have hT := X.get ht
    cases hd : ti.d with
    | int k =>
      simp only [hd] at hk
      cases hb : Nat.beq ti.size 1 with
      | false => simp [hb] at hk
      | true =>
        simp only [hb, cond_true, Option.some.injEq] at hk
        subst hk
        have h1 := hx 0 k rfl
        have h2 := hy 0 k rfl
        have hag : ti.d.agg = false := by rw [hd]; rfl
        refine ⟨_, _, _, part_i hT hag h1 w, part_i hT hag h2 w, run_equalIn_int w (d + 1) t k k _ _ (hT.int hd), ?_⟩
        rw [beq_iff_eq]
        constructor
        · intro h j hj
          have : j = 0 := by simpa using hj
          subst this; exact h
        · intro h; exact h 0 (by simp)
    | arr n e =>
      simp only [hd] at hk
      cases he : aget X.tab e with
      | none => simp [he] at hk
      | some ei =>
        simp only [he] at hk
        cases hde : ei.d with
        | int k =>
          simp only [hde] at hk
          cases hb : (Nat.beq ei.size 1 && Nat.beq ti.size n) with
          | false => simp [hb] at hk
          | true =>
            simp only [hb, cond_true, Option.some.injEq] at hk
            subst hk
            simp only [Bool.and_eq_true] at hb
            have e1 := Nat.eq_of_beq_eq_true hb.1
            have e2 := Nat.eq_of_beq_eq_true hb.2
            have hE := X.get he
            have hag : ti.d.agg = true := by rw [hd]; rfl
            have hget : ∀ j, j < n → (List.replicate n k)[j]? = some k := fun j hj => by simp [hj]
            have hlx : off + ti.size ≤ xs.size ∧ off + ti.size ≤ ys.size ∨ n = 0 := by
              rcases Nat.eq_zero_or_pos n with h0 | h0
              · exact .inr h0
              · have q1 := (Array.getElem?_eq_some_iff.1 (hx (n - 1) k (hget _ (by omega)))).1
                have q2 := (Array.getElem?_eq_some_iff.1 (hy (n - 1) k (hget _ (by omega)))).1
                exact .inl ⟨by omega, by omega⟩
            have hsz : (P.info? e).map (·.size) = some 1 := by rw [hE.size, e1]
            have hxe : ∀ i, i < n → (xs.extract off (off + ti.size))[i]? = some (.int k (f (off + i))) := fun i hi => by
              rw [Array.getElem?_extract, if_pos (by rcases hlx with h | h <;> omega)]
              exact hx i k (hget i hi)
            have hye : ∀ i, i < n → (ys.extract off (off + ti.size))[i]? = some (.int k (g (off + i))) := fun i hi => by
              rw [Array.getElem?_extract, if_pos (by rcases hlx with h | h <;> omega)]
              exact hy i k (hget i hi)
            have pa : ∀ zs : Array Value, (part t zs off).run P w = .ok (.agg (zs.extract off (off + ti.size))) w := fun zs => by
              simp only [part, Sem.run_bind, hT.run_agg, hag, Result.andThen_ok]
              simp [hT.run_size]
            refine ⟨_, _, _, pa xs, pa ys, Eq'.run_equalIn (P := P) (t := t) (e := e) (n := n) (k := k) (d + 1) (fun a b w => run_equalIn_int w d e k k a b (hE.int hde)) (hT.arr hd) (hE.int hde) hsz hxe hye w, ?_⟩
            rw [List.all_eq_true]
            simp only [List.mem_range, beq_iff_eq, List.length_replicate]
        | _ => simp [hde] at hk
    | _ => simp [hd] at hk
theorem eqFlds (X : TOk P) {xs ys : Array Value} {f g : Nat → Int} (d : Nat) (w : World) : ∀ {fs : List Field} {off : Nat} {ks : List IntKind}, (∀ x ∈ fs, x.name ≠ "_") → fldK X.tab off (fs.map fun x => (x.offset, x.type)) = some ks →
    (∀ (j : Nat) k, ks[j]? = some k → xs[off + j]? = some (.int k (f (off + j)))) → (∀ (j : Nat) k, ks[j]? = some k → ys[off + j]? = some (.int k (g (off + j)))) →
    ∃ r, (Op.eqFields (d + 2) xs ys fs).run P w = .ok r w ∧ (r = true ↔ ∀ j, j < ks.length → f (off + j) = g (off + j))
  | [], off, ks, _, hk, _, _ => by simp [fldK] at hk; subst hk; exact ⟨true, rfl, by simp⟩
  | x :: fs, off, ks, hn, hk, hx, hy => by
    simp only [List.map_cons, fldK] at hk
    cases hb : Nat.beq x.offset off with
    | false => simp [hb] at hk
    | true =>
      have ho := Nat.eq_of_beq_eq_true hb
      rw [hb] at hk
      simp only [cond_true] at hk
      cases h1 : tyK X.tab x.type with
      | none => simp [h1] at hk
      | some k1 =>
        simp only [h1] at hk
        cases h2 : fldK X.tab (off + k1.length) (fs.map fun x => (x.offset, x.type)) with
        | none => simp [h2] at hk
        | some k2 =>
          simp only [h2, Option.some.injEq] at hk
          subst hk
          have g1 : ∀ (j : Nat) k, k1[j]? = some k → (k1 ++ k2)[j]? = some k := fun j k hj => by
            have := (List.getElem?_eq_some_iff.1 hj).1
            rw [List.getElem?_append_left this]; exact hj
          have g2 : ∀ (j : Nat) k, k2[j]? = some k → (k1 ++ k2)[k1.length + j]? = some k := fun j k hj => by
            rw [List.getElem?_append_right (by omega), Nat.add_sub_cancel_left]; exact hj
          obtain ⟨a, b, r, p1, p2, p3, p4⟩ := eqPart X h1 (off := off) (f := f) (g := g) (fun j k hj => hx j k (g1 j k hj)) (fun j k hj => hy j k (g1 j k hj)) d w
          obtain ⟨r2, q1, q2⟩ := eqFlds X (xs := xs) (ys := ys) (f := f) (g := g) d w (fs := fs) (off := off + k1.length) (fun y hy' => hn y (by simp [hy'])) h2 (fun j k hj => by rw [Nat.add_assoc]; exact hx _ k (g2 j k hj)) (fun j k hj => by rw [Nat.add_assoc]; exact hy _ k (g2 j k hj))
          have hne := hn x (by simp)
          rw [← ho] at p1 p2
          simp only [Op.eqFields, if_pos hne, Sem.run_bind, p1, p2, p3, Result.andThen_ok]
          cases r with
          | false =>
            refine ⟨false, rfl, ?_⟩
            simp only [Bool.false_eq_true, false_iff] at p4 ⊢
            intro h
            exact p4 fun j hj => h j (by simp; omega)
          | true =>
            have p5 := p4.1 rfl
            refine ⟨r2, ?_, q2.trans ⟨fun h j hj => ?_, fun h j hj => ?_⟩⟩
            · simpa using q1
            · rcases Nat.lt_or_ge j k1.length with hlt | hge
              · exact p5 j hlt
              · have := h (j - k1.length) (by simp at hj; omega)
                rwa [show off + k1.length + (j - k1.length) = off + j by omega] at this
            · have := h (k1.length + j) (by simp; omega)
              rwa [← Nat.add_assoc] at this
def intOf : V → Int
  | .k (.int _ z) => z
  | _ => 0
theorem kinds_vals {w : World} {g : Gh} {cs : List V} {ks : List IntKind} {x : Value} (h : KindsOf cs ks) (hr : Rep w g (.a cs) x) : ∃ xs : Array Value, x = .agg xs ∧ ∀ (j : Nat) k, ks[j]? = some k → xs[j]? = some (.int k (intOf (cs.getD j .nil))) := by
  obtain ⟨h1, h2⟩ := h.spec
  cases hr with
  | @a _ _ vs hl _ hc =>
    refine ⟨vs, rfl, fun j k hj => ?_⟩
    obtain ⟨z, hz⟩ := h2 j k hj
    have hjl := (List.getElem?_eq_some_iff.1 hz).1
    have hv : vs[j]? = some vs[j] := Array.getElem?_eq_getElem (by omega)
    have := rep_k (hc j _ _ hz hv)
    rw [hv, this, List.getD_eq_getElem?_getD, hz]
    rfl
theorem kinds_eq {cs ds : List V} {ks : List IntKind} (h : KindsOf cs ks) (k : KindsOf ds ks) : (∀ j, j < ks.length → intOf (cs.getD (0 + j) .nil) = intOf (ds.getD (0 + j) .nil)) ↔ cs = ds := by
  obtain ⟨h1, h2⟩ := h.spec
  obtain ⟨k1, k2⟩ := k.spec
  constructor
  · intro hh
    apply List.ext_getElem?
    intro j
    rcases Nat.lt_or_ge j ks.length with hj | hj
    · have hk := List.getElem?_eq_getElem hj
      obtain ⟨z, hz⟩ := h2 j _ hk
      obtain ⟨y, hy⟩ := k2 j _ hk
      have := hh j hj
      rw [Nat.zero_add, List.getD_eq_getElem?_getD, List.getD_eq_getElem?_getD, hz, hy] at this
      simp only [Option.getD_some, intOf] at this
      rw [hz, hy, this]
    · rw [List.getElem?_eq_none (by omega), List.getElem?_eq_none (by omega)]
  · rintro rfl j _; rfl
structure EqSt (P : Program) (T : Nat) : Prop where
  held : P.stoodInHeld T = false
  guard : P.eqGuardType P.depth T = false
  names : ((P.fieldsOf T).toList.all fun f => f.name != "_") = true
variable {o : Oper} {env : Env}
theorem run_eqSt (X : TOk P) {T : Nat} {ti : TI} {fs : List (Nat × Nat)} {ks : List IntKind} (hT : aget X.tab T = some ti) (hd : ti.d = .st fs) (hks : fldK X.tab 0 fs = some ks) (hq : EqSt P T) {cs ds : List V} (h1 : KindsOf cs ks) (h2 : KindsOf ds ks) {w : World} {g : Gh} {x y : Value} (hx : Rep w g (.a cs) x) (hy : Rep w g (.a ds) y) (a b : Operand) (ops : BinOp) :
    ∃ xs ys, x = .agg xs ∧ y = .agg ys ∧ (eqGuard ops T a b x y).run P w = .ok () w ∧ (Op.equalIn 10000 T x y).run P w = .ok (@decide (cs = ds) (Classical.propDecidable _)) w := by
  obtain ⟨xs, rfl, hxs⟩ := kinds_vals h1 hx
  obtain ⟨ys, rfl, hys⟩ := kinds_vals h2 hy
  obtain ⟨gs, hu, hg⟩ := (X.get hT).st hd
  have hf : P.fieldsOf T = gs := by unfold Program.fieldsOf; rw [hu]
  refine ⟨xs, ys, rfl, rfl, run_eqGuard_agg w ops T a b xs ys hq.guard, ?_⟩
  rw [run_equalIn_struct w 9999 T xs ys (by rw [hf]; exact hu) hq.held, hf]
  have hn : ∀ x ∈ gs.toList, x.name ≠ "_" := fun x hx => by
    have := hq.names
    rw [hf, List.all_eq_true] at this
    simpa using this x hx
  obtain ⟨r, e1, e2⟩ := eqFlds X (P := P) (xs := xs) (ys := ys) (f := fun j => intOf (cs.getD j .nil)) (g := fun j => intOf (ds.getD j .nil)) 9997 w (fs := gs.toList) (off := 0) (ks := ks) hn (by rw [hg]; exact hks) (fun j k hj => by rw [Nat.zero_add]; exact hxs j k hj) (fun j k hj => by rw [Nat.zero_add]; exact hys j k hj)
  rw [e1]
  congr 1
  rw [Bool.eq_iff_iff, e2, @decide_eq_true_iff _ (Classical.propDecidable _)]
  exact kinds_eq h1 h2
theorem Does.eqSt {T Y : Nat} {x y : Operand} {cs ds : List V} {fs : List (Nat × Nat)} {ks : List IntKind} (X : TOk P) {ti : TI} (ho : o.op = .binOp .eql T x y Y) (hx : evo env x = some (.a cs)) (hy : evo env y = some (.a ds)) (hT : aget X.tab T = some ti) (hd : ti.d = .st fs) (hks : fldK X.tab 0 fs = some ks) (hq : EqSt P T) (h1 : KindsOf cs ks) (h2 : KindsOf ds ks) {r : Bool} (hr' : @decide (cs = ds) (Classical.propDecidable _) = r) : Does P o env (.k (.bool r)) [] :=
  .pure fun F g a w mem hr _ => by
    subst hr'
    obtain ⟨xs, ys, e1, e2, e3, e4⟩ := run_eqSt X hT hd hks hq h1 h2 (hr x (by simp [ho, Op.operands]) _ hx) (hr y (by simp [ho, Op.operands]) _ hy) x y .eql
    rw [e1, e2] at e3 e4
    refine ⟨_, ?_, .k _⟩
    simp only [execOp, ho, e1, e2, Sem.run_bind, e3, Result.andThen_ok, run_eql_struct, e4]
    rfl
theorem Does.neSt {T Y : Nat} {x y : Operand} {cs ds : List V} {fs : List (Nat × Nat)} {ks : List IntKind} (X : TOk P) {ti : TI} (ho : o.op = .binOp .neq T x y Y) (hx : evo env x = some (.a cs)) (hy : evo env y = some (.a ds)) (hT : aget X.tab T = some ti) (hd : ti.d = .st fs) (hks : fldK X.tab 0 fs = some ks) (hq : EqSt P T) (h1 : KindsOf cs ks) (h2 : KindsOf ds ks) {r : Bool} (hr' : @decide (¬ cs = ds) (Classical.propDecidable _) = r) : Does P o env (.k (.bool r)) [] :=
  .pure fun F g a w mem hr _ => by
    subst hr'
    obtain ⟨xs, ys, e1, e2, e3, e4⟩ := run_eqSt X hT hd hks hq h1 h2 (hr x (by simp [ho, Op.operands]) _ hx) (hr y (by simp [ho, Op.operands]) _ hy) x y .neq
    rw [e1, e2] at e3 e4
    refine ⟨.bool (!(@decide (cs = ds) (Classical.propDecidable _))), ?_, ?_⟩
    · simp only [execOp, ho, e1, e2, Sem.run_bind, e3, Result.andThen_ok, run_neq_struct, e4]
      rfl
    · have : (!(@decide (cs = ds) (Classical.propDecidable _))) = @decide (¬ cs = ds) (Classical.propDecidable _) := by
        rw [Bool.eq_iff_iff]; simp
      rw [this]
      exact .k _
end
end Lf
end Go.Proofs.Ytgioofknlbdfjaa

/- The walk's steps over buffers. -/
namespace Go.Proofs.Ytgioofknlbdfjaa
open Go.RowKit Rg
namespace Lf
/-- Some of a list written over. -/
def put {α : Type} (l : List α) (off : Nat) (m : List α) : List α := l.take off ++ m ++ l.drop (off + m.length)
theorem put_len {α : Type} {l m : List α} {off : Nat} (h : off + m.length ≤ l.length) : (put l off m).length = l.length := by simp [put]; omega
theorem put_nil {α : Type} {l : List α} {off : Nat} : put l off [] = l := by simp [put]
theorem put_getD {α : Type} {l m : List α} {off j : Nat} (d : α) (h : off + m.length ≤ l.length) : (put l off m).getD j d = if off ≤ j ∧ j < off + m.length then m.getD (j - off) d else l.getD j d := by
  simp only [List.getD_eq_getElem?_getD, put, List.getElem?_append, List.length_append, List.length_take, List.getElem?_take, List.getElem?_drop]
  have e : min off l.length = off := by omega
  rw [e]
  by_cases h1 : j < off
  · rw [if_pos (by omega), if_pos h1, if_pos h1, if_neg (by omega)]
  · by_cases h2 : j < off + m.length
    · rw [if_pos h2, if_neg h1, if_pos (by omega)]
    · rw [if_neg h2, if_neg (by omega)]; congr 2; omega
theorem splice_put {α : Type} {l m : List α} {f : α → V} {off : Nat} : splice (l.map f) off (m.map f) = (put l off m).map f := by
  simp only [splice, put, List.map_append, List.map_take, List.map_drop, List.length_map]
theorem splice_lit {cs us cs' : List V} {o n : Nat} (hl : us.length = n) (he : cs.take o ++ (us ++ cs.drop (o + n)) = cs') : splice cs o us = cs' := by rw [← he, ← hl, splice, List.append_assoc]
theorem splice_nil {es : List V} {off : Nat} : splice es off [] = es := by simp [splice]
theorem set_map {α : Type} {l : List α} {f : α → V} {off : Nat} {x : α} : (l.map f).set off (f x) = (l.set off x).map f := by rw [List.map_set]
theorem cut_mapW {α : Type} {l : List α} {f : α → V} {off n : Nat} : ((l.map f).drop off).take n = ((l.drop off).take n).map f := by rw [List.map_take, List.map_drop]
theorem flat_map1 {α : Type} {f : α → V} (hf : ∀ a, (f a).cells = [f a]) {l : List α} : (l.map f).flatMap V.cells = l.map f := by
  induction l with
  | nil => rfl
  | cons a l ih => rw [List.map_cons, List.flatMap_cons, hf, ih]; rfl
theorem app_rep {α : Type} {l : List α} {f : α → V} {k : Nat} {x : α} : l.map f ++ List.replicate k (f x) = (l ++ List.replicate k x).map f := by rw [List.map_append, List.map_replicate]
section
variable {P : Program} {o : Oper} {env : Env}
theorem Does.cutWs {T E e l h i gen off n sz : Nat} {x : Operand} {lo hi : Option Operand} {es : List V} (X : TOk P) {ti ei : TI} (ho : o.op = .slice T x lo hi none) (hx : evo env x = some (.w i gen sz off n)) (hT : aget X.tab T = some ti) (hd : ti.d = .sl e) (hE : aget X.tab e = some ei) (hsz : ei.size = sz) (hlo : Bd env 0 lo l) (hhi : Bd env n hi h)
    (h1 : l ≤ h) (h2 : h ≤ n) : Does P o env (.w i gen sz (off + l) (h - l)) [(i, some (.w E sz gen es), none)] := by
  subst hsz; exact Does.cutW X ho hx hT hd hE hlo hhi h1 h2
theorem Does.cutWz {T E e l h i gen n sz : Nat} {x : Operand} {lo hi : Option Operand} {es : List V} (X : TOk P) {ti ei : TI} (ho : o.op = .slice T x lo hi none) (hx : evo env x = some (.w i gen sz 0 n)) (hT : aget X.tab T = some ti) (hd : ti.d = .sl e) (hE : aget X.tab e = some ei) (hsz : ei.size = sz) (hlo : Bd env 0 lo l) (hhi : Bd env n hi h)
    (h1 : l ≤ h) (h2 : h ≤ n) {m : Nat} (hm : h - l = m) : Does P o env (.w i gen sz l m) [(i, some (.w E sz gen es), none)] := by
  subst hm
  have := Does.cutWs (E := E) (es := es) X ho hx hT hd hE hsz hlo hhi h1 h2
  rwa [Nat.zero_add] at this
theorem Does.idxW1 {T E e k i gen off n sz : Nat} {x ix : Operand} {kd : IntKind} {z : Int} {es : List V} (X : TOk P) {ti ei : TI} (ho : o.op = .indexAddr T x ix) (hx : evo env x = some (.w i gen sz off n)) (hi : evo env ix = some (.k (.int kd z))) (hz : z = ((k : Nat) : Int)) (hT : aget X.tab T = some ti) (hd : ti.d = .sl e) (hE : aget X.tab e = some ei) (hsz : ei.size = sz) (hs1 : Nat.beq sz 1 = true) (hk : k < n) {q : Nat} (hq : off + k = q) :
    Does P o env (.pw i gen q) [(i, some (.w E sz gen es), none)] := by
  subst hsz; subst hq
  have := Does.idxW (E := E) (es := es) X ho hx hi hz hT hd hE hk
  have e1 := Nat.eq_of_beq_eq_true hs1
  rwa [show (off + k) * ei.size = off + k by rw [e1, Nat.mul_one]] at this
theorem Does.idxWm {T E e k i gen off n sz : Nat} {x ix : Operand} {kd : IntKind} {z : Int} {es : List V} (X : TOk P) {ti ei : TI} (ho : o.op = .indexAddr T x ix) (hx : evo env x = some (.w i gen sz off n)) (hi : evo env ix = some (.k (.int kd z))) (hz : z = ((k : Nat) : Int)) (hT : aget X.tab T = some ti) (hd : ti.d = .sl e) (hE : aget X.tab e = some ei) (hsz : ei.size = sz) (hk : k < n) {q : Nat} (hq : off + k = q) :
    Does P o env (.pw i gen (q * sz)) [(i, some (.w E sz gen es), none)] := by
  subst hsz; subst hq
  exact Does.idxW (E := E) (es := es) X ho hx hi hz hT hd hE hk
end
theorem cells_k {v : Value} : (V.k v).cells = [.k v] := rfl
theorem cells_a {cs : List V} : (V.a cs).cells = cs := rfl
theorem cells_uK {n : Nat} : (uK n).cells = [uK n] := rfl
theorem cells_bK {n : UInt8} : (bK n).cells = [bK n] := rfl
theorem cells_s {o : Option Nat} {es : List V} : (V.s o es).cells = [.s o es] := rfl
theorem cells_nil : V.nil.cells = [.nil] := rfl
/-- Two arrays in an array. -/
theorem vfill_two {z a b : List V} {k : Nat} (hz : z.length = k + k) (ha : a.length = k) (hb : b.length = k) : vfill (fun i => some (i * k, k)) z [(0, .a a), (1, .a b)] = some (a ++ b) := by
  have e1 : splice z 0 a = a ++ z.drop k := by simp [splice, ha]
  have e2 : splice (a ++ z.drop k) k b = a ++ b := by
    unfold splice
    rw [List.take_append, List.take_of_length_le (by omega), ha, Nat.sub_self, List.take_zero, List.append_nil, List.drop_of_length_le (by rw [List.length_append, List.length_drop]; omega), List.append_nil]
  simp only [vfill, V.ok, V.cells, ha, hb, Nat.zero_mul, Nat.one_mul, e1, e2, hz, Nat.beq_refl, List.length_append, List.length_drop, Nat.zero_add, Nat.add_sub_cancel]
  have h1 : Nat.ble k (k + k) = true := Nat.ble_eq_true_of_le (by omega)
  have h2 : Nat.ble (k + k) (k + k) = true := Nat.ble_eq_true_of_le (Nat.le_refl _)
  simp only [h1, h2, Bool.and_self, cond_true]
theorem bare_am2 {α : Type} {f : α → V} {l m : List α} (hf : ∀ a, (f a).bare = some (f a)) : (V.a (l.map f ++ m.map f)).bare = some (.a (l.map f ++ m.map f)) := by rw [← List.map_append]; exact bare_am hf
theorem dense4 {v v' u u' t t' s s' : V} (h : v.bare = some v') (k : u.bare = some u') (l : t.bare = some t') (m : s.bare = some s') : dense 0 [(0, v), (1, u), (2, t), (3, s)] = some [v', u', t', s'] := by simp [dense, h, k, l, m]
theorem flat_a1 {x : List V} : [V.a x].flatMap V.cells = x := by simp [V.cells]
theorem flat_a2 {x y : List V} : [V.a x, V.a y].flatMap V.cells = x ++ y := by simp [V.cells]
/-- A loop by a number and four states. -/
structure LNext5 {β γ δ ε : Type} (I : Nat → β → γ → δ → ε → Env) (J : Nat → β → γ → δ → ε → Mem) (ok : Nat → β → γ → δ → ε → Prop) (μ : Nat → Nat) (i : Nat) (env : Env) (mem : Mem) : Prop where
  ex : ∃ y b c d e, ok y b c d e ∧ μ y < μ i ∧ Sub env mem (I y b c d e) (J y b c d e)
theorem LNext5.go {β γ δ ε : Type} {I : Nat → β → γ → δ → ε → Env} {J : Nat → β → γ → δ → ε → Mem} {ok : Nat → β → γ → δ → ε → Prop} {μ : Nat → Nat} {i : Nat} {env : Env} {mem : Mem} {y : Nat} {b : β} {c : γ} {d : δ} {e : ε} (he : SubE env (I y b c d e)) (hm : SubM mem (J y b c d e)) (hk : (mem.all fun x => Nat.blt x.1 1000 || (aget (J y b c d e) x.1).isSome) = true)
    (hrE : refsE (J y b c d e) (I y b c d e) = true) (hrM : refsM (J y b c d e) (J y b c d e) = true) (hok : ok y b c d e) (hlt : μ y < μ i) : LNext5 I J ok μ i env mem := ⟨y, b, c, d, e, hok, hlt, he, hm, by rw [hk, hrE, hrM]; rfl⟩
theorem LC.loop5 {P : Program} {F : Fr0} {N : Nat} {Q : LQ} {env : Env} {mem : Mem} {β γ δ ε : Type} {k : Code} (I : Nat → β → γ → δ → ε → Env) (J : Nat → β → γ → δ → ε → Mem) (ok : Nat → β → γ → δ → ε → Prop) (μ : Nat → Nat) (i0 : Nat) (b0 : β) (c0 : γ) (d0 : δ) (e0 : ε) (h0 : ok i0 b0 c0 d0 e0) (he : SubE env (I i0 b0 c0 d0 e0)) (hm : SubM mem (J i0 b0 c0 d0 e0)) (hk : (mem.all fun x => Nat.blt x.1 1000 || (aget (J i0 b0 c0 d0 e0) x.1).isSome) = true)
    (hrE : refsE (J i0 b0 c0 d0 e0) (I i0 b0 c0 d0 e0) = true) (hrM : refsM (J i0 b0 c0 d0 e0) (J i0 b0 c0 d0 e0) = true)
    (round : ∀ i b c d e, ok i b c d e → LC P F N k (LThen (LNext5 I J ok μ i) Q) (I i b c d e) (J i b c d e)) : LC P F N (.loop k) Q env mem :=
  LC.loop (fun x : Nat × β × γ × δ × ε => I x.1 x.2.1 x.2.2.1 x.2.2.2.1 x.2.2.2.2) (fun x => J x.1 x.2.1 x.2.2.1 x.2.2.2.1 x.2.2.2.2) (fun x => ok x.1 x.2.1 x.2.2.1 x.2.2.2.1 x.2.2.2.2) (fun x => μ x.1) (i0, b0, c0, d0, e0) h0 ⟨he, hm, by rw [hk, hrE, hrM]; rfl⟩ fun x hx => (round x.1 x.2.1 x.2.2.1 x.2.2.2.1 x.2.2.2.2 hx).mono fun e env' mem' h => by
    cases e with
    | normal => obtain ⟨y, b, c, d, e, h1, h2, h3⟩ := h.ex; exact ⟨(y, b, c, d, e), h1, h2, h3⟩
    | _ => exact h
/-- A loop of at most n rounds is walked round by round. -/
structure RoundsOf (n : Nat) : Prop where
  t : True
theorem LC.roundsM {P : Program} {F : Fr0} {N : Nat} {Q : LQ} {c : Code} {env : Env} {mem : Mem} {n : Nat} (_ : RoundsOf n) (h : LRd P F N c Q n env mem) : LC P F N (.loop c) Q env mem := LC.rounds n h
theorem LRd.go {P : Program} {F : Fr0} {N : Nat} {Q : LQ} {c : Code} {env : Env} {mem : Mem} {n m : Nat} (hn : n = m + 1) (h : LC P F N c (LThen (LRd P F N c Q m) Q) env mem) : LRd P F N c Q n env mem := by subst hn; exact h
section
variable {P : Program} {o : Oper} {env : Env}
theorem Does.buildStN {T : Nat} {ps : List (Nat × Operand)} {fs pl : List (Nat × Nat)} {vs : List (Nat × V)} {cs cs' : List V} (X : TOk P) {ti : TI} (ho : o.op = .build T ps.toArray) (hT : aget X.tab T = some ti) (hd : ti.d = .st fs) (hpl : places X.tab fs = some pl) (hv : evp env ps = some vs) (hc : vfill (fun i => pl[i]?) (ti.zero.map Z.v) vs = some cs) (hn : cs = cs') : Does P o env (.a cs') [] := by
  subst hn; exact Does.buildSt X ho hT hd hpl hv hc
/-- A struct as it is built, nil slices taken for empty ones. -/
theorem Does.buildStC {T : Nat} {ps : List (Nat × Operand)} {fs pl : List (Nat × Nat)} {vs : List (Nat × V)} {cs cs' : List V} (X : TOk P) {ti : TI} (ho : o.op = .build T ps.toArray) (hT : aget X.tab T = some ti) (hd : ti.d = .st fs) (hpl : places X.tab fs = some pl) (hv : evp env ps = some vs) (hc : vfill (fun i => pl[i]?) (ti.zero.map Z.v) vs = some cs) (hn : V.cv.go (fun _ => false) true cs = cs') : Does P o env (.a cs') [] := by
  subst hn
  have h := Does.buildSt X ho hT hd hpl hv hc
  refine ⟨fun F g a w mem h1 h2 h3 h4 h5 K Q hK => h.ex F g a w mem h1 h2 h3 h4 h5 K Q fun x g' w' e1 e2 e3 e4 => hK x g' w' e1 e2 e3 e4.cv⟩
/-- copy into nil. -/
theorem Does.copyNS {T Tx E : Nat} {t : Option Nat} {x y : Operand} {ys : List V} (X : TOk P) {ti ei : TI} (ho : o.op = .call { callee := .builtin .copy, args := #[x, y], argTypes := #[T, Tx] }) (hx : evo env x = some .nil) (hy : evo env y = some (.s t ys)) (hT : aget X.tab T = some ti) (hd : ti.d = .sl E) (hE : aget X.tab E = some ei) : Does P o env (.k (.int .i64 ((0 : Nat) : Int))) [] :=
  .pure fun F g a w mem h1 _ => by
    have hrx := h1 x (by simp [ho, Op.operands, Call.operands]) _ hx
    have hry := h1 y (by simp [ho, Op.operands, Call.operands]) _ hy
    have hxx : a.eval x = .slice none 0 0 := by generalize a.eval x = v at hrx; cases hrx; rfl
    obtain ⟨ad, n, c, hyy⟩ : ∃ ad n c, a.eval y = .slice ad n c := by generalize a.eval y = v at hry; cases hry <;> exact ⟨_, _, _, rfl⟩
    have hfc : (Builtin.firstCells ei.size 0 (.slice ad n c)).run P w = .ok #[] w := by
      cases ad with
      | none => simp [Builtin.firstCells]
      | some q => exact run_firstCells_some w ei.size 0 q n c [] (by simp) (by simp)
    have hmin : (if n = 0 then n else 0) = 0 := by split; assumption; rfl
    refine ⟨_, ?_, .k (.int .i64 0)⟩
    simp [execOp, ho, resolve, invoke, builtin, hxx, hyy, Builtin.copy_, run_underlying ((X.get hT).sl hd), (X.get hE).run_size, Builtin.lenOf, goInt, Nat.min_def, hmin, hfc]
theorem Does.copyNN {T Tx E : Nat} {x y : Operand} (X : TOk P) {ti ei : TI} (ho : o.op = .call { callee := .builtin .copy, args := #[x, y], argTypes := #[T, Tx] }) (hx : evo env x = some .nil) (hy : evo env y = some .nil) (hT : aget X.tab T = some ti) (hd : ti.d = .sl E) (hE : aget X.tab E = some ei) : Does P o env (.k (.int .i64 ((0 : Nat) : Int))) [] :=
  .pure fun F g a w mem h1 _ => by
    have hrx := h1 x (by simp [ho, Op.operands, Call.operands]) _ hx
    have hry := h1 y (by simp [ho, Op.operands, Call.operands]) _ hy
    have hxx : a.eval x = .slice none 0 0 := by generalize a.eval x = v at hrx; cases hrx; rfl
    have hyy : a.eval y = .slice none 0 0 := by generalize a.eval y = v at hry; cases hry; rfl
    refine ⟨_, ?_, .k (.int .i64 0)⟩
    simp [execOp, ho, resolve, invoke, builtin, hxx, hyy, Builtin.copy_, run_underlying ((X.get hT).sl hd), (X.get hE).run_size, Builtin.lenOf, Builtin.firstCells, goInt]
end
section
variable {P : Program} {N : Nat} {ops : Array Oper} {chk : List (Nat × Tch) → Bool} {K : Env → Mem → Prop} {acc : List (Nat × Tch)} {env : Env} {mem : Mem} {i d j : Nat} {o : Oper} {rs : List (Nat × Oper)} {v : V}
theorem DR.cutz {T E e l h gen n sz : Nat} {x : Operand} {lo hi : Option Operand} {es : List V} (X : TOk P) {ti ei : TI} (ho : o.op = .slice T x lo hi none) (hg : gd ops env o = some true) (hds : o.dst = some d) (hx : evo env x = some (.w j gen sz 0 n)) (hm : aget mem j = some (.w E sz gen es)) (_hes : n ≤ es.length) (hT : aget X.tab T = some ti) (hdt : ti.d = .sl e) (hE : aget X.tab e = some ei) (hsz : ei.size = sz) (hlo : Bd env 0 lo l) (hhi : Bd env n hi h)
    (h1 : l ≤ h) (h2 : h ≤ n) {m : Nat} (hn : h - l = m) (hd : Nat.blt d N = true) (hK : DR P N ops chk K rs ((i, [(j, some (.w E sz gen es), none)]) :: acc) ((d, .w j gen sz l m) :: env) mem) : DR P N ops chk K ((i, o) :: rs) acc env mem :=
  DR.rr hg hds (Does.cutWz X ho hx hT hdt hE hsz hlo hhi h1 h2 hn) hm hd hK
theorem DR.cuts {T E e l h gen off n sz : Nat} {x : Operand} {lo hi : Option Operand} {es : List V} (X : TOk P) {ti ei : TI} (ho : o.op = .slice T x lo hi none) (hg : gd ops env o = some true) (hds : o.dst = some d) (hx : evo env x = some (.w j gen sz off n)) (hm : aget mem j = some (.w E sz gen es)) (_hes : off + n ≤ es.length) (hT : aget X.tab T = some ti) (hdt : ti.d = .sl e) (hE : aget X.tab e = some ei) (hsz : ei.size = sz) (hlo : Bd env 0 lo l) (hhi : Bd env n hi h)
    (h1 : l ≤ h) (h2 : h ≤ n) {m : Nat} (hn : h - l = m) (hd : Nat.blt d N = true) (hK : DR P N ops chk K rs ((i, [(j, some (.w E sz gen es), none)]) :: acc) ((d, .w j gen sz (off + l) m) :: env) mem) : DR P N ops chk K ((i, o) :: rs) acc env mem := by
  subst hn
  exact DR.rr hg hds (Does.cutWs X ho hx hT hdt hE hsz hlo hhi h1 h2) hm hd hK
theorem DR.ldW {T E gen sz off : Nat} {x : Operand} {es cs : List V} (X : TOk P) {ti : TI} (ho : o.op = .load T x) (hg : gd ops env o = some true) (hds : o.dst = some d) (hx : evo env x = some (.pw j gen off)) (hm : aget mem j = some (.w E sz gen es)) (hT : aget X.tab T = some ti) (hp : Nat.blt 0 ti.size = true) (hfl : es.flatMap V.cells = cs) (hv : ti.part cs off = some v) (hd : Nat.blt d N = true)
    (hK : DR P N ops chk K rs ((i, [(j, some (.w E sz gen es), none)]) :: acc) ((d, v) :: env) mem) : DR P N ops chk K ((i, o) :: rs) acc env mem := by
  subst hfl
  exact DR.rr hg hds (Does.loadW X ho hx hT hv hp) hm hd hK
theorem DR.stW {T E gen sz off k : Nat} {x y : Operand} {es es2 : List V} {u u' : V} (X : TOk P) {ti : TI} (ho : o.op = .store T x y) (hg : gd ops env o = some true) (hds : o.dst = none) (hx : evo env x = some (.pw j gen off)) (hy : evo env y = some u) (hm : aget mem j = some (.w E sz gen es)) (hT : aget X.tab T = some ti) (hb : u.bare = some u') (hu : u'.ok = true) (hs : u'.cells.length = sz) (hts : ti.size = sz) (hoff : off = k * sz) (hk : k < es.length) (hz : es.set k u' = es2)
    (hK : DR P N ops chk K rs ((i, [(j, some (.w E sz gen es), some (.w E sz gen es2))]) :: acc) env ((j, .w E sz gen es2) :: mem)) : DR P N ops chk K ((i, o) :: rs) acc env mem := by
  subst hz
  exact DR.ss hg hds (Does.storeW X ho hx hy hT hb hu hs hts hoff hk) hm hK
theorem DR.mkW {T Tx E n k sz gen : Nat} {kd kx : IntKind} {x y : Operand} {z : Int} {es es2 : List V} {zv : V} (X : TOk P) {ti xi ei : TI} (ho : o.op = .call { callee := .builtin .append, args := #[x, y], argTypes := #[T, Tx] }) (hg : gd ops env o = some true) (hds : o.dst = some d) (hx : evo env x = some (.w j gen sz 0 n)) (hy : evo env y = some (.k (.int kd z))) (hm : aget mem j = some (.w E sz gen es)) (hz : z = ((k : Nat) : Int)) (hT : aget X.tab T = some ti) (hdt : ti.d = .sl E) (hX : aget X.tab Tx = some xi) (hdx : xi.d = .int kx) (hE : aget X.tab E = some ei) (hsz : ei.size = sz)
    (hn : es.length = n) (hk : 0 < k) (hmax : n + k ≤ 140737488355328) (hb : (n + k) * ei.bytes ≤ 140737488355328) (hzv : zv.cells = ei.zero.map Z.v) {n2 : Nat} (hn2 : n + k = n2) (he : es ++ List.replicate k zv = es2) (hd : Nat.blt d N = true)
    (hK : DR P N ops chk K rs ((i, [(j, some (.w E sz gen es), some (.w E sz (gen + 1) es2))]) :: acc) ((d, .w j (gen + 1) sz 0 n2) :: env) ((j, .w E sz (gen + 1) es2) :: mem)) : DR P N ops chk K ((i, o) :: rs) acc env mem := by
  subst he; subst hn2
  exact DR.ww hg hds (Does.appMakeW X ho hx hy hz hT hdt hX hdx hE hsz hn hk hmax hb hzv) hm hd hK
/-- copy into a buffer from a slice that stays. -/
theorem DR.cpS {T Tx E Ex gen off n m sz : Nat} {x y : Operand} {t : Option Nat} {es ys es2 : List V} (X : TOk P) {ti xi ei : TI} (ho : o.op = .call { callee := .builtin .copy, args := #[x, y], argTypes := #[T, Tx] }) (hg : gd ops env o = some true) (hds : o.dst = some d) (hx : evo env x = some (.w j gen sz off n)) (hy : evo env y = some (.s t ys)) (hm : aget mem j = some (.w E sz gen es)) (hT : aget X.tab T = some ti) (hdt : ti.d = .sl E) (hE : aget X.tab E = some ei) (hsz : ei.size = sz) (hX : aget X.tab Tx = some xi) (hdx : xi.d = .sl Ex) (hys : ∀ e ∈ ys, e.cells.length = sz) (hl : ys.length = m) (hmn : m ≤ n) (hle : off + m ≤ es.length) (hz : splice es off ys = es2) (hd : Nat.blt d N = true)
    (hK : DR P N ops chk K rs ((i, [(j, some (.w E sz gen es), some (.w E sz gen es2))]) :: acc) ((d, .k (.int .i64 (m : Int))) :: env) ((j, .w E sz gen es2) :: mem)) : DR P N ops chk K ((i, o) :: rs) acc env mem := by
  subst hsz; subst hz
  exact DR.step hg (Does.copyW X ho hx (SrcOk.sl X hy hX hdx hys) rfl hT hdt hE hys hl hmn hle) (tpre_one hm) (by rw [hds]; exact hd) (by rw [hds]; exact hK)
theorem DR.cpN {T Tx E Ex gen off n sz : Nat} {x y : Operand} {es : List V} (X : TOk P) {ti xi ei : TI} (ho : o.op = .call { callee := .builtin .copy, args := #[x, y], argTypes := #[T, Tx] }) (hg : gd ops env o = some true) (hds : o.dst = some d) (hx : evo env x = some (.w j gen sz off n)) (hy : evo env y = some .nil) (hm : aget mem j = some (.w E sz gen es)) (hT : aget X.tab T = some ti) (hdt : ti.d = .sl E) (hE : aget X.tab E = some ei) (hsz : ei.size = sz) (hX : aget X.tab Tx = some xi) (hdx : xi.d = .sl Ex) (hle : off ≤ es.length) (hd : Nat.blt d N = true)
    (hK : DR P N ops chk K rs ((i, [(j, some (.w E sz gen es), some (.w E sz gen es))]) :: acc) ((d, .k (.int .i64 ((0 : Nat) : Int))) :: env) ((j, .w E sz gen es) :: mem)) : DR P N ops chk K ((i, o) :: rs) acc env mem := by
  subst hsz
  have h := Does.copyW (E := E) (i := j) (es := es) X ho hx (SrcOk.nil X hy hX hdx) rfl hT hdt hE (by simp) (m := 0) rfl (Nat.zero_le _) hle
  rw [splice_nil] at h
  exact DR.step hg h (tpre_one hm) (by rw [hds]; exact hd) (by rw [hds]; exact hK)
theorem DR.cpB {α : Type} {f : α → V} {T Tx E Ex gen off n m sz jb ob cap : Nat} {x y : Operand} {es es2 cs : List V} {l : List α} (X : TOk P) {ti xi ei : TI} (ho : o.op = .call { callee := .builtin .copy, args := #[x, y], argTypes := #[T, Tx] }) (hg : gd ops env o = some true) (hds : o.dst = some d) (hx : evo env x = some (.w j gen sz off n)) (hy : evo env y = some (.sb jb ob m cap)) (hm : aget mem j = some (.w E sz gen es)) (hb2 : aget mem jb = some (.b cs)) (hT : aget X.tab T = some ti) (hdt : ti.d = .sl E) (hE : aget X.tab E = some ei) (hsz : ei.size = sz) (hs1 : Nat.beq sz 1 = true) (hX : aget X.tab Tx = some xi) (hdx : xi.d = .sl Ex)
    (hcs : (cs.drop ob).take m = l.map f) (hf : ∀ a, (f a).cells = [f a]) (hr : ∀ a, (f a).bare = some (f a)) (hlm : l.length = m) (hbl : ob + m ≤ cs.length) (hmn : m ≤ n) (hle : off + m ≤ es.length) (hz : splice es off (l.map f) = es2) (hd : Nat.blt d N = true)
    (hK : DR P N ops chk K rs ((i, [(j, some (.w E sz gen es), some (.w E sz gen es2)), (jb, some (.b cs), none)]) :: acc) ((d, .k (.int .i64 (m : Int))) :: env) ((j, .w E sz gen es2) :: mem)) : DR P N ops chk K ((i, o) :: rs) acc env mem := by
  have e1 := Nat.eq_of_beq_eq_true hs1
  subst hsz; subst hz
  have hlen : (l.map f).length = m := by rw [List.length_map]; exact hlm
  refine DR.step hg (Does.copyW X ho hx (SrcOk.box X hy hX hdx e1 hcs hbl (cells1_map hf l) fun u hu => by obtain ⟨a, _, rfl⟩ := List.mem_map.1 hu; exact hr a) rfl hT hdt hE (fun e he => ?_) hlen hmn hle) (tpre_two hm hb2) (by rw [hds]; exact hd) (by rw [hds]; exact hK)
  obtain ⟨a, _, rfl⟩ := List.mem_map.1 he
  rw [hf, e1]; rfl
/-- .. from a slice of a buffer (it may be the same one). -/
theorem DR.cpW {T Tx E E2 Ex gen gen2 off n m sz jb ob : Nat} {x y : Operand} {es es2 fs ys : List V} (X : TOk P) {ti xi ei : TI} (ho : o.op = .call { callee := .builtin .copy, args := #[x, y], argTypes := #[T, Tx] }) (hg : gd ops env o = some true) (hds : o.dst = some d) (hx : evo env x = some (.w j gen sz off n)) (hy : evo env y = some (.w jb gen2 sz ob m)) (hm : aget mem j = some (.w E sz gen es)) (hb2 : aget mem jb = some (.w E2 sz gen2 fs)) (hT : aget X.tab T = some ti) (hdt : ti.d = .sl E) (hE : aget X.tab E = some ei) (hsz : ei.size = sz) (hX : aget X.tab Tx = some xi) (hdx : xi.d = .sl Ex)
    (hcs : (fs.drop ob).take m = ys) (hys : ∀ e ∈ ys, e.cells.length = sz) (hbl : ob + m ≤ fs.length) (hmn : m ≤ n) (hle : off + m ≤ es.length) (hz : splice es off ys = es2) (hd : Nat.blt d N = true)
    (hK : DR P N ops chk K rs ((i, [(j, some (.w E sz gen es), some (.w E sz gen es2)), (jb, some (.w E2 sz gen2 fs), none)]) :: acc) ((d, .k (.int .i64 (m : Int))) :: env) ((j, .w E sz gen es2) :: mem)) : DR P N ops chk K ((i, o) :: rs) acc env mem := by
  subst hsz; subst hz
  have hlen : ys.length = m := by rw [← hcs]; simp; omega
  exact DR.step hg (Does.copyW X ho hx (SrcOk.buf X hy hX hdx hcs hbl) rfl hT hdt hE hys hlen hmn hle) (tpre_two hm hb2) (by rw [hds]; exact hd) (by rw [hds]; exact hK)
/-- A call that hands back a fresh row. -/
theorem DR.crk {fx E sz n : Nat} {xs : List Operand} {ts : Array Nat} {us args es : List V} (ho : o.op = .call { callee := .value (.func fx), args := xs.toArray, argTypes := ts }) (hg : gd ops env o = some true) (hds : o.dst = some d) (hx : evs env xs = some us) (hc : ∀ k, LM P fx args [] fun o m => o = .ret (.s (some k) es) ∧ m = [(k, .r E sz n)]) (hu : Fits us args) (hr : V.refs.go [] args = true) (ht : aget mem d = none) (hd : Nat.blt d N = true)
    (hK : DR P N ops chk K rs ((i, callT [] [(d, .r E sz n)]) :: acc) ((d, .s (some d) es) :: env) ((d, .r E sz n) :: mem)) : DR P N ops chk K ((i, o) :: rs) acc env mem :=
  DR.cm hg hds (Does.callM (hc d) ho hx hu (by rw [hr]; rfl)) ⟨ht, trivial⟩ hd hK
/-- A call that only looks at a slice of a buffer. -/
theorem DR.cvw {fx E gen sz off n : Nat} {xs : List Operand} {ts : Array Nat} {es es' : List V} (ho : o.op = .call { callee := .value (.func fx), args := xs.toArray, argTypes := ts }) (hg : gd ops env o = some true) (hds : o.dst = some d) (hx : evs env xs = some [.w j gen sz off n]) (hm : aget mem j = some (.w E sz gen es)) (h0 : 0 < n) (hl : off + n ≤ es.length) (hcs : (es.drop off).take n = es') (hc : LM P fx [.s none es'] [] fun o m => o = .ret v ∧ m = []) (hp : v.pure = true) (hd : Nat.blt d N = true)
    (hK : DR P N ops chk K rs ((i, [(j, some (.w E sz gen es), none)]) :: acc) ((d, v) :: env) mem) : DR P N ops chk K ((i, o) :: rs) acc env mem :=
  DR.rr hg hds (Does.callV [(j, .w E sz gen es)] hc ho hx (.cons (.w (E := E) (es := es) (aget_self j _ _) hl h0 hcs) .nil) hp) hm hd hK
end
end Lf
end Go.Proofs.Ytgioofknlbdfjaa

/- From plain contracts to lifted ones, and from a law's lifted contract to its claim. -/
namespace Go.Proofs.Ytgioofknlbdfjaa
open Go.RowKit Rg
namespace Lf
/-- v reads as x and as nothing else. -/
def Exact (v : V) (x : Value) : Prop := (∀ w g, Rep w g v x) ∧ ∀ w g y, Rep w g v y → y = x
theorem exact_k (x : Value) : Exact (.k x) x := ⟨fun _ _ => .k x, fun _ _ _ h => rep_k h⟩
theorem exact_pair {a b : V} {x y : Value} (ha : Exact a x) (hb : Exact b y) : Exact (.t [a, b]) (.tuple #[x, y]) := by
  refine ⟨fun w g => .t rfl (fun j u z hj hz => ?_), fun w g z h => ?_⟩
  · match j with
    | 0 => simp at hj hz; subst hj; subst hz; exact ha.1 w g
    | 1 => simp at hj hz; subst hj; subst hz; exact hb.1 w g
    | j + 2 => simp at hj
  · cases h with
    | @t _ _ vs hl hc =>
      have hs : vs.size = 2 := by simpa using hl.symm
      congr 1
      apply Array.ext
      · simpa using hs
      · intro i h1 h2
        have hv : vs[i]? = some vs[i] := Array.getElem?_eq_getElem h1
        match i with
        | 0 => exact ha.2 w g _ (hc 0 _ _ rfl hv)
        | 1 => exact hb.2 w g _ (hc 1 _ _ rfl hv)
        | i + 2 => omega
theorem args_exact {args : List V} {xs : List Value} (h : args.length = xs.length) (he : ∀ (j : Nat) u x, args[j]? = some u → xs[j]? = some x → Exact u x) {w : World} {g : Gh} {vals : Array Value} (hl : args.length = vals.size) (hr : ∀ (j : Nat) u x, args[j]? = some u → vals[j]? = some x → Rep w g u x) : vals = xs.toArray := by
  apply Array.ext
  · simp; omega
  · intro i h1 h2
    have hv : vals[i]? = some vals[i] := Array.getElem?_eq_getElem h1
    have ha : args[i]? = some args[i] := List.getElem?_eq_getElem (by omega)
    have hx : xs[i]? = some xs[i] := List.getElem?_eq_getElem (by simpa using h2)
    have := (he i _ _ ha hx).2 w g _ (hr i _ _ ha hv)
    rw [this]; rfl
/-- From a contract on plain values. -/
theorem LF.of_calls {P : Program} {f : Nat} {args : List V} {xs : List Value} {out : V} {y : Value} (hok : callOk P f = true) (h : args.length = xs.length) (he : ∀ (j : Nat) u x, args[j]? = some u → xs[j]? = some x → Exact u x) (ho : Exact out y)
    (hc : ∀ w, Calls P f xs.toArray w fun e w' => e = .returned y ∧ Ext w w') : LF P f args (fun _ => out) none := by
  refine ⟨hok, fun g w vals hm hl hr => ?_⟩
  rw [args_exact h he hl hr]
  refine (hc w).mono fun e w' ⟨he, hx⟩ => ⟨.ret out, [], g, ⟨rfl, rfl⟩, ?_⟩
  obtain ⟨k1, k2, k3⟩ := hm.ext (g' := g) ⟨rfl, rfl, rfl, Nat.le_refl _, fun _ _ _ => rfl, fun _ _ _ _ => ⟨rfl, rfl⟩, fun _ _ _ _ h => h, fun _ _ _ h => h, fun _ _ _ _ => rfl⟩ hx (fun _ _ _ => Iff.rfl) rfl rfl (fun b o hb => hm.fut b o (Nat.le_trans hx.size hb))
  exact ⟨k1, k2, k3, y, he, ho.1 _ _⟩
theorem ex1 {a : V} {x : Value} (ha : Exact a x) : ∀ (j : Nat) u y, [a][j]? = some u → [x][j]? = some y → Exact u y := fun j u y hj hy => by
  match j with
  | 0 => simp at hj hy; subst hj; subst hy; exact ha
  | j + 1 => simp at hj
theorem ex2 {a b : V} {x y : Value} (ha : Exact a x) (hb : Exact b y) : ∀ (j : Nat) u z, [a, b][j]? = some u → [x, y][j]? = some z → Exact u z := fun j u z hj hz => by
  match j with
  | 0 => simp at hj hz; subst hj; subst hz; exact ha
  | 1 => simp at hj hz; subst hj; subst hz; exact hb
  | j + 2 => simp at hj
theorem ex3 {a b c : V} {x y z : Value} (ha : Exact a x) (hb : Exact b y) (hc : Exact c z) : ∀ (j : Nat) u t, [a, b, c][j]? = some u → [x, y, z][j]? = some t → Exact u t := fun j u t hj hz => by
  match j with
  | 0 => simp at hj hz; subst hj; subst hz; exact ha
  | 1 => simp at hj hz; subst hj; subst hz; exact hb
  | 2 => simp at hj hz; subst hj; subst hz; exact hc
  | j + 3 => simp at hj
/-- From a law's lifted contract to its walk. -/
def allS : Gh := ⟨fun _ _ => True, fun _ => none, fun _ => none⟩
theorem LF.truth {P : Program} {f : Nat} {args : List V} (h : LF P f args (fun _ => .k (.bool true)) none) (W : World) (vals : Array Value) (hl : args.length = vals.size) (hr : ∀ (j : Nat) u x, args[j]? = some u → vals[j]? = some x → Rep W allS u x) :
    Calls P f vals W fun e W' => e = .returned (.bool true) ∧ Ext W W' := by
  refine (h.go allS W vals ⟨fun _ _ h => (by cases h), fun _ _ _ _ h => (by cases h), fun _ _ _ _ _ _ _ h => (by cases h), fun _ _ => rfl, fun _ _ => rfl, fun _ _ _ => trivial, ⟨fun _ _ h => h, fun _ a l c h => ⟨a, l, c, h, Nat.le_refl _, fun _ => ⟨rfl, rfl⟩⟩⟩⟩ hl hr).mono ?_
  rintro e w' ⟨o, mo, g', ⟨rfl, rfl⟩, _, _, hk, x, rfl, hrep⟩
  rw [rep_k hrep]
  exact ⟨rfl, hk.os, hk.tape, hk.output, hk.size, fun b hb => hk.blk b hb fun o ⟨i, m, h, _⟩ => by cases h⟩
/-- Arguments and what they read. -/
def RepAll (W : World) (g : Gh) : List V → List Value → Prop
  | [], [] => True
  | u :: us, x :: xs => Rep W g u x ∧ RepAll W g us xs
  | _, _ => False
theorem RepAll.spec {W : World} {g : Gh} : ∀ {us : List V} {xs : List Value}, RepAll W g us xs → us.length = xs.length ∧ ∀ (j : Nat) u x, us[j]? = some u → xs[j]? = some x → Rep W g u x
  | [], [], _ => ⟨rfl, fun j u x h => by simp at h⟩
  | u :: us, x :: xs, h => by
    obtain ⟨h1, h2⟩ := RepAll.spec h.2
    refine ⟨by simp [h1], fun j a b ha hb => ?_⟩
    cases j with
    | zero => simp at ha hb; subst ha; subst hb; exact h.1
    | succ j => simp at ha hb; exact h2 j a b ha hb
  | [], _ :: _, h => h.elim
  | _ :: _, [], h => h.elim
theorem LF.holds {P : Program} {f : Nat} {args : List V} (h : LF P f args (fun _ => .k (.bool true)) none) (W : World) (xs : List Value) (hr : RepAll W allS args xs) : Calls P f xs.toArray W fun e W' => e = .returned (.bool true) ∧ Ext W W' :=
  LF.truth h W xs.toArray (by simpa using hr.spec.1) fun j u x hu hx => hr.spec.2 j u x hu (by simpa using hx)
end Lf
end Go.Proofs.Ytgioofknlbdfjaa

/- The table of the types of the seat's program, held against the program by the kernel. -/
namespace Go.Proofs.Ytgioofknlbdfjaa
namespace Lf
set_option maxRecDepth 20000 in
def tab : Tab := [
  (1, ⟨.fn, 1, 8, [.fn]⟩),
  (2, ⟨.int .i64, 1, 8, [.int .i64]⟩),
  (3, ⟨.int .i64, 1, 8, [.int .i64]⟩),
  (4, ⟨.bool, 1, 1, [.bool]⟩),
  (5, ⟨.int .u8, 1, 1, [.int .u8]⟩),
  (6, ⟨.int .u8, 1, 1, [.int .u8]⟩),
  (7, ⟨.st [(0, 2), (1, 3), (2, 4), (3, 6)], 4, 24, [.int .i64, .int .i64, .bool, .int .u8]⟩),
  (8, ⟨.st [(0, 2), (1, 3), (2, 4), (3, 6)], 4, 24, [.int .i64, .int .i64, .bool, .int .u8]⟩),
  (9, ⟨.str, 1, 16, [.str]⟩),
  (10, ⟨.str, 1, 16, [.str]⟩),
  (11, ⟨.str, 1, 16, [.str]⟩),
  (12, ⟨.int .u64, 1, 8, [.int .u64]⟩),
  (13, ⟨.st [(0, 9), (1, 12)], 2, 24, [.str, .int .u64]⟩),
  (14, ⟨.st [(0, 9), (1, 12)], 2, 24, [.str, .int .u64]⟩),
  (15, ⟨.ptr 67, 1, 8, [.ptr]⟩),
  (16, ⟨.ptr 70, 1, 8, [.ptr]⟩),
  (17, ⟨.ptr 80, 1, 8, [.ptr]⟩),
  (18, ⟨.st [(0, 17)], 1, 8, [.ptr]⟩),
  (19, ⟨.st [(0, 17)], 1, 8, [.ptr]⟩),
  (20, ⟨.ifc, 1, 16, [.ifc]⟩),
  (21, ⟨.int .i32, 1, 4, [.int .i32]⟩),
  (22, ⟨.sl 38, 1, 24, [.sl]⟩),
  (23, ⟨.fn, 1, 8, [.fn]⟩),
  (24, ⟨.sl 33, 1, 24, [.sl]⟩),
  (25, ⟨.sl 5, 1, 24, [.sl]⟩),
  (27, ⟨.fn, 1, 8, [.fn]⟩),
  (28, ⟨.int .u64, 1, 8, [.int .u64]⟩),
  (29, ⟨.int .i64, 1, 8, [.int .i64]⟩),
  (30, ⟨.arr 4 28, 4, 32, [.int .u64, .int .u64, .int .u64, .int .u64]⟩),
  (31, ⟨.arr 4 28, 4, 32, [.int .u64, .int .u64, .int .u64, .int .u64]⟩),
  (32, ⟨.st [(0, 29), (1, 31), (5, 28)], 6, 48, [.int .i64, .int .u64, .int .u64, .int .u64, .int .u64, .int .u64]⟩),
  (33, ⟨.st [(0, 29), (1, 31), (5, 28)], 6, 48, [.int .i64, .int .u64, .int .u64, .int .u64, .int .u64, .int .u64]⟩),
  (34, ⟨.fn, 1, 8, [.fn]⟩),
  (35, ⟨.fn, 1, 8, [.fn]⟩),
  (36, ⟨.fn, 1, 8, [.fn]⟩),
  (37, ⟨.st [(0, 3), (1, 31), (5, 31), (9, 31), (13, 31), (17, 25)], 18, 160, [.int .i64, .int .u64, .int .u64, .int .u64, .int .u64, .int .u64, .int .u64, .int .u64, .int .u64, .int .u64, .int .u64, .int .u64, .int .u64, .int .u64, .int .u64, .int .u64, .int .u64, .sl]⟩),
  (38, ⟨.st [(0, 3), (1, 31), (5, 31), (9, 31), (13, 31), (17, 25)], 18, 160, [.int .i64, .int .u64, .int .u64, .int .u64, .int .u64, .int .u64, .int .u64, .int .u64, .int .u64, .int .u64, .int .u64, .int .u64, .int .u64, .int .u64, .int .u64, .int .u64, .int .u64, .sl]⟩),
  (39, ⟨.fn, 1, 8, [.fn]⟩),
  (40, ⟨.fn, 1, 8, [.fn]⟩),
  (41, ⟨.fn, 1, 8, [.fn]⟩),
  (42, ⟨.fn, 1, 8, [.fn]⟩),
  (43, ⟨.fn, 1, 8, [.fn]⟩),
  (44, ⟨.fn, 1, 8, [.fn]⟩),
  (45, ⟨.fn, 1, 8, [.fn]⟩),
  (46, ⟨.fn, 1, 8, [.fn]⟩),
  (47, ⟨.fn, 1, 8, [.fn]⟩),
  (48, ⟨.st [(0, 25)], 1, 24, [.sl]⟩),
  (49, ⟨.st [(0, 25)], 1, 24, [.sl]⟩),
  (50, ⟨.fn, 1, 8, [.fn]⟩),
  (52, ⟨.fn, 1, 8, [.fn]⟩),
  (53, ⟨.sl 25, 1, 24, [.sl]⟩),
  (54, ⟨.fn, 1, 8, [.fn]⟩),
  (55, ⟨.ptr 49, 1, 8, [.ptr]⟩),
  (56, ⟨.arr 2 31, 8, 64, [.int .u64, .int .u64, .int .u64, .int .u64, .int .u64, .int .u64, .int .u64, .int .u64]⟩),
  (57, ⟨.sl 56, 1, 24, [.sl]⟩),
  (59, ⟨.fn, 1, 8, [.fn]⟩),
  (60, ⟨.fn, 1, 8, [.fn]⟩),
  (61, ⟨.fn, 1, 8, [.fn]⟩),
  (62, ⟨.arr 32 5, 32, 32, [.int .u8, .int .u8, .int .u8, .int .u8, .int .u8, .int .u8, .int .u8, .int .u8, .int .u8, .int .u8, .int .u8, .int .u8, .int .u8, .int .u8, .int .u8, .int .u8, .int .u8, .int .u8, .int .u8, .int .u8, .int .u8, .int .u8, .int .u8, .int .u8, .int .u8, .int .u8, .int .u8, .int .u8, .int .u8, .int .u8, .int .u8, .int .u8]⟩),
  (63, ⟨.arr 32 5, 32, 32, [.int .u8, .int .u8, .int .u8, .int .u8, .int .u8, .int .u8, .int .u8, .int .u8, .int .u8, .int .u8, .int .u8, .int .u8, .int .u8, .int .u8, .int .u8, .int .u8, .int .u8, .int .u8, .int .u8, .int .u8, .int .u8, .int .u8, .int .u8, .int .u8, .int .u8, .int .u8, .int .u8, .int .u8, .int .u8, .int .u8, .int .u8, .int .u8]⟩),
  (64, ⟨.fn, 1, 8, [.fn]⟩),
  (65, ⟨.fn, 1, 8, [.fn]⟩),
  (66, ⟨.st [(0, 17), (1, 17), (2, 17), (3, 9)], 4, 40, [.ptr, .ptr, .ptr, .str]⟩),
  (67, ⟨.st [(0, 17), (1, 17), (2, 17), (3, 9)], 4, 40, [.ptr, .ptr, .ptr, .str]⟩),
  (68, ⟨.arr 0 16, 0, 0, []⟩),
  (69, ⟨.st [(0, 68)], 0, 0, []⟩),
  (70, ⟨.st [(0, 68)], 0, 0, []⟩),
  (71, ⟨.fn, 1, 8, [.fn]⟩),
  (72, ⟨.int .u32, 1, 4, [.int .u32]⟩),
  (73, ⟨.int .u8, 1, 1, [.int .u8]⟩),
  (74, ⟨.int .u8, 1, 1, [.int .u8]⟩),
  (75, ⟨.fn, 1, 8, [.fn]⟩),
  (76, ⟨.ptr 5, 1, 8, [.ptr]⟩),
  (77, ⟨.int .i32, 1, 4, [.int .i32]⟩),
  (78, ⟨.int .i32, 1, 4, [.int .i32]⟩),
  (79, ⟨.st [(0, 12), (1, 12), (2, 72), (3, 73), (4, 5), (5, 5), (6, 74), (7, 75), (8, 76), (9, 77), (10, 78)], 11, 48, [.int .u64, .int .u64, .int .u32, .int .u8, .int .u8, .int .u8, .int .u8, .fn, .ptr, .int .i32, .int .i32]⟩),
  (80, ⟨.st [(0, 12), (1, 12), (2, 72), (3, 73), (4, 5), (5, 5), (6, 74), (7, 75), (8, 76), (9, 77), (10, 78)], 11, 48, [.int .u64, .int .u64, .int .u32, .int .u8, .int .u8, .int .u8, .int .u8, .fn, .ptr, .int .i32, .int .i32]⟩)]
theorem tab_ok : (tab.all fun x => x.2.chk Try.prog x.1) = true := by kernel_rfl
def tt : TOk Try.prog := ⟨tab, tab_ok⟩
theorem mixed : Try.prog.follows .mixedOrders = true := by kernel_rfl
end Lf
end Go.Proofs.Ytgioofknlbdfjaa

/- The walker: one for all functions of the seat. Contracts lie in the context by the names c1 to c24. -/
namespace Go.Proofs.Ytgioofknlbdfjaa
open Go.RowKit Rg
namespace Lf
set_option maxRecDepth 100000 in
theorem wk {G C D B : Prop} (h1 : C) (h2 : D) (h3 : B) (h : Away C → Away D → Away B → G := by intro a1 a2 a3; (repeat' (first | intro _ | (apply DR.ld tt; (case ho => with_reducible exact rfl); (case hg => first | exact rfl | exact gd_y rfl rfl rfl (by assumption)); (case hds => exact rfl); (case hx => first | exact evo_ki | exact evo_kb | exact rfl); (case hm => exact rfl); (case hT => exact rfl); (case hv => (first | exact part_map rfl rfl lz | exact part_whole rfl lz | (apply ld1 <;> first | exact rfl | exact lz) | (apply ld2 <;> first | exact rfl | exact lz) | (apply ld3 <;> first | exact rfl | exact lz) | (apply ld4 <;> first | exact rfl | exact lz) | (apply ld5 <;> first | exact rfl | exact lz) | (apply ld6 <;> first | exact rfl | exact lz) | (apply ld7 <;> first | exact rfl | exact lz) | (apply part_l; (first | exact part_map rfl rfl lz | exact part_whole rfl lz | exact rfl)) | (apply part_l; apply part_r; (case hl => first | exact (List.length_map _).trans (by assumption) | ((try apply (List.length_map _).trans); (repeat apply List.length_set.trans); assumption) | rfl); (case hk => first | exact off_s | exact off_r (by decide) | exact off_r lz); (first | exact part_map rfl rfl lz | exact part_whole rfl lz | exact rfl)) | (apply part_r; (case hl => first | exact (List.length_map _).trans (by assumption) | ((try apply (List.length_map _).trans); (repeat apply List.length_set.trans); assumption) | rfl); (case hk => first | exact off_s | exact off_r (by decide) | exact off_r lz); first | (apply part_l; (first | exact part_map rfl rfl lz | exact part_whole rfl lz | exact rfl)) | (apply part_r; (case hl => first | exact (List.length_map _).trans (by assumption) | ((try apply (List.length_map _).trans); (repeat apply List.length_set.trans); assumption) | rfl); (case hk => first | exact off_s | exact off_r (by decide) | exact off_r lz); (first | exact part_map rfl rfl lz | exact part_whole rfl lz | exact rfl)) | (first | exact part_map rfl rfl lz | exact part_whole rfl lz | exact rfl)) | exact rfl)); (case hd => exact rfl)) | (apply DR.pp; (case hg => first | exact rfl | exact gd_y rfl rfl rfl (by assumption)); (case hds => exact rfl); (case h => (first | (apply Does.buildStC tt; (case ho => with_reducible exact rfl); (case hT => exact rfl); (case hd => exact rfl); (case hpl => exact rfl); (case hv => exact rfl); (case hc => assumption); (case hn => assumption)) | (apply Does.buildStN tt; (case ho => with_reducible exact rfl); (case hT => exact rfl); (case hd => exact rfl); (case hpl => exact rfl); (case hv => exact rfl); (case hc => exact rfl); (case hn => first | (simp only [splice, List.map_cons, List.map_nil, Z.v, cells_k, cells_a, cells_uK, cells_bK, cells_s, cells_nil, List.take_succ_cons, List.take_zero, List.take_nil, List.drop_succ_cons, List.drop_zero, List.drop_nil, List.cons_append, List.nil_append, List.append_nil, List.length_cons, List.length_nil, Nat.reduceAdd, Nat.reduceMul, Nat.zero_add]; exact rfl) | exact rfl)) | (apply Does.move; (case ho => with_reducible exact rfl); (case hx => exact rfl)) | (apply Does.assign; (case ho => with_reducible exact rfl); (case hx => exact rfl)) | (apply Does.gB; (case ho => with_reducible exact rfl); (case h => (first | (apply Does.neNil0 tt; (case ho => with_reducible exact rfl); (case hx => first | exact evo_ki | exact evo_kb | exact rfl); (case hT => exact rfl); (case hd => exact rfl)) | (apply Does.neNilI tt; (case ho => with_reducible exact rfl); (case hx => first | exact evo_ki | exact evo_kb | exact rfl); (case hT => exact rfl); (case hd => exact rfl)) | (apply Does.eqNil0 tt; (case ho => with_reducible exact rfl); (case hx => first | exact evo_ki | exact evo_kb | exact rfl); (case hT => exact rfl); (case hd => exact rfl)) | (apply Does.eqNilI tt; (case ho => with_reducible exact rfl); (case hx => first | exact evo_ki | exact evo_kb | exact rfl); (case hT => exact rfl); (case hd => exact rfl)) | (apply Does.catl; (case ho => with_reducible exact rfl); (case hx => first | exact evo_ki | exact evo_kb | exact rfl); (case hy => first | exact evo_ki | exact evo_kb | exact rfl); (case hr => exact lz)) | (apply Does.lss; (case ho => with_reducible exact rfl); (case hx => first | exact evo_ki | exact evo_kb | exact rfl); (case hy => first | exact evo_ki | exact evo_kb | exact rfl); (case hr => first | exact dT lz | exact dF lz)) | (apply Does.eql; (case ho => with_reducible exact rfl); (case hx => first | exact evo_ki | exact evo_kb | exact rfl); (case hy => first | exact evo_ki | exact evo_kb | exact rfl); (case hr => first | exact dT lz | exact dF lz)) | (apply Does.neq; (case ho => with_reducible exact rfl); (case hx => first | exact evo_ki | exact evo_kb | exact rfl); (case hy => first | exact evo_ki | exact evo_kb | exact rfl); (case hr => first | exact dT lz | exact dF lz)) | (apply Does.leq; (case ho => with_reducible exact rfl); (case hx => first | exact evo_ki | exact evo_kb | exact rfl); (case hy => first | exact evo_ki | exact evo_kb | exact rfl); (case hr => first | exact dT lz | exact dF lz)) | (apply Does.gtr; (case ho => with_reducible exact rfl); (case hx => first | exact evo_ki | exact evo_kb | exact rfl); (case hy => first | exact evo_ki | exact evo_kb | exact rfl); (case hr => first | exact dT lz | exact dF lz)) | (apply Does.geq; (case ho => with_reducible exact rfl); (case hx => first | exact evo_ki | exact evo_kb | exact rfl); (case hy => first | exact evo_ki | exact evo_kb | exact rfl); (case hr => first | exact dT lz | exact dF lz)) | (apply Does.add; (case ho => with_reducible exact rfl); (case hx => first | exact evo_ki | exact evo_kb | exact rfl); (case hy => first | exact evo_ki | exact evo_kb | exact rfl); (case hr => first | with_reducible assumption | with_reducible exact uadd | exact add_i64r (by omega) | exact add_i64 (by omega) | exact add_u64r (by omega) | exact add_u64 (by omega) | exact wrap_i64 (by omega) | exact wrap_u64 (by omega) | exact wrap_u8 (by omega) | exact rfl)) | (apply Does.sub; (case ho => with_reducible exact rfl); (case hx => first | exact evo_ki | exact evo_kb | exact rfl); (case hy => first | exact evo_ki | exact evo_kb | exact rfl); (case hr => first | with_reducible assumption | with_reducible exact usub | exact sub_i64r (by omega) (by omega) | exact sub_i64 (by omega) (by omega) | exact sub_i64l (by omega) (by omega) | exact sub_u64r (by omega) (by omega) | exact sub_u64l (by omega) (by omega) | exact sub_u64 (by omega) (by omega) | exact wrap_i64 (by omega) | exact wrap_u64 (by omega) | exact wrap_u8 (by omega) | exact rfl)) | (apply Does.mul; (case ho => with_reducible exact rfl); (case hx => first | exact evo_ki | exact evo_kb | exact rfl); (case hy => first | exact evo_ki | exact evo_kb | exact rfl); (case hr => first | with_reducible assumption | exact mul_i64r (by omega) | exact mul_i64l (by omega) | exact mul_i64 (by omega) | exact mul_u64r (by omega) | exact mul_u64l (by omega) | exact mul_u64 (by omega) | exact mul_u64m | exact rfl)) | (apply Does.and'; (case ho => with_reducible exact rfl); (case hx => first | exact evo_ki | exact evo_kb | exact rfl); (case hy => first | exact evo_ki | exact evo_kb | exact rfl); (case hr => first | with_reducible assumption | with_reducible exact band | with_reducible exact bandn | exact and_u64 lz lz | exact rfl)) | (apply Does.or'; (case ho => with_reducible exact rfl); (case hx => first | exact evo_ki | exact evo_kb | exact rfl); (case hy => first | exact evo_ki | exact evo_kb | exact rfl); (case hr => first | with_reducible assumption | with_reducible exact uor | with_reducible exact uorn | with_reducible exact bor | exact or_u64 lz lz | exact rfl)) | (apply Does.xor'; (case ho => with_reducible exact rfl); (case hx => first | exact evo_ki | exact evo_kb | exact rfl); (case hy => first | exact evo_ki | exact evo_kb | exact rfl); (case hr => first | with_reducible assumption | with_reducible exact uxor | with_reducible exact uxorn | exact xor_u64 lz lz | exact rfl)) | (apply Does.quo; (case ho => with_reducible exact rfl); (case hx => first | exact evo_ki | exact evo_kb | exact rfl); (case hy => first | exact evo_ki | exact evo_kb | exact rfl); (case h0 => first | decide | omega); (case hr => first | with_reducible assumption | with_reducible exact quo_u8r (by omega) | exact quo_i64r (by omega) | exact quo_u64r (by omega) | exact quo_i64 (by omega) | exact quo_u64 (by omega) | exact rfl)) | (apply Does.rem; (case ho => with_reducible exact rfl); (case hx => first | exact evo_ki | exact evo_kb | exact rfl); (case hy => first | exact evo_ki | exact evo_kb | exact rfl); (case h0 => first | decide | omega); (case hr => first | with_reducible assumption | exact rem_r | exact rem_nat | exact rfl)) | (apply Does.shr; (case ho => with_reducible exact rfl); (case hx => first | exact evo_ki | exact evo_kb | exact rfl); (case hy => first | exact evo_ki | exact evo_kb | exact rfl); (case h0 => first | decide | omega); (case hr => first | with_reducible assumption | exact shr_u64r (by omega) | exact shr_u64 (by omega) | exact shr_u8r (by omega) | exact rfl)) | (apply Does.shl; (case ho => with_reducible exact rfl); (case hx => first | exact evo_ki | exact evo_kb | exact rfl); (case hy => first | exact evo_ki | exact evo_kb | exact rfl); (case h0 => first | decide | omega); (case hr => first | with_reducible assumption | with_reducible exact shl_u8l (by omega) | exact shl_u64r (by omega) | exact shl_u64 (by omega) | exact shl_u8r (by omega) | exact rfl)) | (apply Does.eqInts bK_inj tt; (case ho => with_reducible exact rfl); (case hx => first | exact evo_ki | exact evo_kb | exact rfl); (case hy => first | exact evo_ki | exact evo_kb | exact rfl); (case hT => exact rfl); (case hd => exact rfl); (case hE => exact rfl); (case he => exact rfl); (case hs => exact rfl); (case hl => exact lz); (case hm => exact lz); (case hr' => first | exact dT lz | exact dF lz)) | (apply Does.eqInts qK_inj tt; (case ho => with_reducible exact rfl); (case hx => first | exact evo_ki | exact evo_kb | exact rfl); (case hy => first | exact evo_ki | exact evo_kb | exact rfl); (case hT => exact rfl); (case hd => exact rfl); (case hE => exact rfl); (case he => exact rfl); (case hs => exact rfl); (case hl => exact lz); (case hm => exact lz); (case hr' => first | exact dT lz | exact dF lz)) | (apply Does.eqInts uK_inj tt; (case ho => with_reducible exact rfl); (case hx => first | exact evo_ki | exact evo_kb | exact rfl); (case hy => first | exact evo_ki | exact evo_kb | exact rfl); (case hT => exact rfl); (case hd => exact rfl); (case hE => exact rfl); (case he => exact rfl); (case hs => exact rfl); (case hl => exact lz); (case hm => exact lz); (case hr' => first | exact dT lz | exact dF lz)) | (apply Does.eqInts (m := List.replicate 4 0) uK_inj tt; (case ho => with_reducible exact rfl); (case hx => first | exact evo_ki | exact evo_kb | exact rfl); (case hy => first | exact evo_ki | exact evo_kb | exact rfl); (case hT => exact rfl); (case hd => exact rfl); (case hE => exact rfl); (case he => exact rfl); (case hs => exact rfl); (case hl => exact lz); (case hm => exact lz); (case hr' => first | exact dT lz | exact dF lz)) | (apply Does.eqInts (m := List.replicate 32 0) bK_inj tt; (case ho => with_reducible exact rfl); (case hx => first | exact evo_ki | exact evo_kb | exact rfl); (case hy => first | exact evo_ki | exact evo_kb | exact rfl); (case hT => exact rfl); (case hd => exact rfl); (case hE => exact rfl); (case he => exact rfl); (case hs => exact rfl); (case hl => exact lz); (case hm => exact lz); (case hr' => first | exact dT lz | exact dF lz)) | (apply Does.eqInts (m := List.replicate 8 0) qK_inj tt; (case ho => with_reducible exact rfl); (case hx => first | exact evo_ki | exact evo_kb | exact rfl); (case hy => first | exact evo_ki | exact evo_kb | exact rfl); (case hT => exact rfl); (case hd => exact rfl); (case hE => exact rfl); (case he => exact rfl); (case hs => exact rfl); (case hl => exact lz); (case hm => exact lz); (case hr' => first | exact dT lz | exact dF lz)) | (apply Does.eqInts (m := List.replicate 8 0) bK_inj tt; (case ho => with_reducible exact rfl); (case hx => first | exact evo_ki | exact evo_kb | exact rfl); (case hy => first | exact evo_ki | exact evo_kb | exact rfl); (case hT => exact rfl); (case hd => exact rfl); (case hE => exact rfl); (case he => exact rfl); (case hs => exact rfl); (case hl => exact lz); (case hm => exact lz); (case hr' => first | exact dT lz | exact dF lz)) | (apply Does.neInts bK_inj tt; (case ho => with_reducible exact rfl); (case hx => first | exact evo_ki | exact evo_kb | exact rfl); (case hy => first | exact evo_ki | exact evo_kb | exact rfl); (case hT => exact rfl); (case hd => exact rfl); (case hE => exact rfl); (case he => exact rfl); (case hs => exact rfl); (case hl => exact lz); (case hm => exact lz); (case hr' => first | exact dT lz | exact dF lz)) | (apply Does.neInts qK_inj tt; (case ho => with_reducible exact rfl); (case hx => first | exact evo_ki | exact evo_kb | exact rfl); (case hy => first | exact evo_ki | exact evo_kb | exact rfl); (case hT => exact rfl); (case hd => exact rfl); (case hE => exact rfl); (case he => exact rfl); (case hs => exact rfl); (case hl => exact lz); (case hm => exact lz); (case hr' => first | exact dT lz | exact dF lz)) | (apply Does.neInts uK_inj tt; (case ho => with_reducible exact rfl); (case hx => first | exact evo_ki | exact evo_kb | exact rfl); (case hy => first | exact evo_ki | exact evo_kb | exact rfl); (case hT => exact rfl); (case hd => exact rfl); (case hE => exact rfl); (case he => exact rfl); (case hs => exact rfl); (case hl => exact lz); (case hm => exact lz); (case hr' => first | exact dT lz | exact dF lz)) | (apply Does.neInts (m := List.replicate 4 0) uK_inj tt; (case ho => with_reducible exact rfl); (case hx => first | exact evo_ki | exact evo_kb | exact rfl); (case hy => first | exact evo_ki | exact evo_kb | exact rfl); (case hT => exact rfl); (case hd => exact rfl); (case hE => exact rfl); (case he => exact rfl); (case hs => exact rfl); (case hl => exact lz); (case hm => exact lz); (case hr' => first | exact dT lz | exact dF lz)) | (apply Does.neInts (m := List.replicate 32 0) bK_inj tt; (case ho => with_reducible exact rfl); (case hx => first | exact evo_ki | exact evo_kb | exact rfl); (case hy => first | exact evo_ki | exact evo_kb | exact rfl); (case hT => exact rfl); (case hd => exact rfl); (case hE => exact rfl); (case he => exact rfl); (case hs => exact rfl); (case hl => exact lz); (case hm => exact lz); (case hr' => first | exact dT lz | exact dF lz)) | (apply Does.neInts (m := List.replicate 8 0) qK_inj tt; (case ho => with_reducible exact rfl); (case hx => first | exact evo_ki | exact evo_kb | exact rfl); (case hy => first | exact evo_ki | exact evo_kb | exact rfl); (case hT => exact rfl); (case hd => exact rfl); (case hE => exact rfl); (case he => exact rfl); (case hs => exact rfl); (case hl => exact lz); (case hm => exact lz); (case hr' => first | exact dT lz | exact dF lz)) | (apply Does.neInts (m := List.replicate 8 0) bK_inj tt; (case ho => with_reducible exact rfl); (case hx => first | exact evo_ki | exact evo_kb | exact rfl); (case hy => first | exact evo_ki | exact evo_kb | exact rfl); (case hT => exact rfl); (case hd => exact rfl); (case hE => exact rfl); (case he => exact rfl); (case hs => exact rfl); (case hl => exact lz); (case hm => exact lz); (case hr' => first | exact dT lz | exact dF lz)) | (apply Does.eqSt tt; (case ho => with_reducible exact rfl); (case hx => first | exact evo_ki | exact evo_kb | exact rfl); (case hy => first | exact evo_ki | exact evo_kb | exact rfl); (case hT => exact rfl); (case hd => exact rfl); (case hks => exact rfl); (case hq => first | assumption | exact ⟨by kernel_rfl, by kernel_rfl, by kernel_rfl⟩); (case h1 => first | assumption | exact kd1 _ | exact kd2 _ | exact kd3 _ | (repeat (first | exact KindsOf.nil | refine KindsOf.cons ?_ | refine KindsOf.maps (fun _ => rfl) ?_ (by assumption) | exact KindsOf.map1 (fun _ => rfl) (by assumption)))); (case h2 => first | assumption | exact kd1 _ | exact kd2 _ | exact kd3 _ | (repeat (first | exact KindsOf.nil | refine KindsOf.cons ?_ | refine KindsOf.maps (fun _ => rfl) ?_ (by assumption) | exact KindsOf.map1 (fun _ => rfl) (by assumption)))); (case hr' => first | exact dT lz | exact dF lz)) | (apply Does.neSt tt; (case ho => with_reducible exact rfl); (case hx => first | exact evo_ki | exact evo_kb | exact rfl); (case hy => first | exact evo_ki | exact evo_kb | exact rfl); (case hT => exact rfl); (case hd => exact rfl); (case hks => exact rfl); (case hq => first | assumption | exact ⟨by kernel_rfl, by kernel_rfl, by kernel_rfl⟩); (case h1 => first | assumption | exact kd1 _ | exact kd2 _ | exact kd3 _ | (repeat (first | exact KindsOf.nil | refine KindsOf.cons ?_ | refine KindsOf.maps (fun _ => rfl) ?_ (by assumption) | exact KindsOf.map1 (fun _ => rfl) (by assumption)))); (case h2 => first | assumption | exact kd1 _ | exact kd2 _ | exact kd3 _ | (repeat (first | exact KindsOf.nil | refine KindsOf.cons ?_ | refine KindsOf.maps (fun _ => rfl) ?_ (by assumption) | exact KindsOf.map1 (fun _ => rfl) (by assumption)))); (case hr' => first | exact dT lz | exact dF lz))))) | (apply Does.gI; (case ho => with_reducible exact rfl); (case h => (first | (apply Does.idxArr0 tt; (case ho => with_reducible exact rfl); (case hx => first | exact evo_ki | exact evo_kb | exact rfl); (case hi => exact rfl); (case hz => first | with_reducible exact rfl | exact litN _ | exact rfl | exact natZ lz); (case hT => exact rfl); (case hd => exact rfl); (case hE => exact rfl); (case hs => exact rfl); (case hk => exact lz)) | (apply Does.idxArr1 tt; (case ho => with_reducible exact rfl); (case hx => first | exact evo_ki | exact evo_kb | exact rfl); (case hi => exact rfl); (case hz => first | with_reducible exact rfl | exact litN _ | exact rfl | exact natZ lz); (case hT => exact rfl); (case hd => exact rfl); (case hE => exact rfl); (case hs => exact rfl); (case hk => exact lz)) | (apply Does.idxArr tt; (case ho => with_reducible exact rfl); (case hx => first | exact evo_ki | exact evo_kb | exact rfl); (case hi => exact rfl); (case hz => first | with_reducible exact rfl | exact litN _ | exact rfl | exact natZ lz); (case hT => exact rfl); (case hd => exact rfl); (case hE => exact rfl); (case hk => exact lz)) | (apply Does.idxSb1 tt; (case ho => with_reducible exact rfl); (case hx => first | exact evo_ki | exact evo_kb | exact rfl); (case hi => exact rfl); (case hz => first | with_reducible exact rfl | exact litN _ | exact rfl | exact natZ lz); (case hT => exact rfl); (case hd => exact rfl); (case hE => exact rfl); (case hs => exact rfl); (case hk => exact lz)) | (apply Does.idxSb tt; (case ho => with_reducible exact rfl); (case hx => first | exact evo_ki | exact evo_kb | exact rfl); (case hi => exact rfl); (case hz => first | with_reducible exact rfl | exact litN _ | exact rfl | exact natZ lz); (case hT => exact rfl); (case hd => exact rfl); (case hE => exact rfl); (case hk => exact lz)) | (apply Does.idx tt; (case ho => with_reducible exact rfl); (case hx => first | exact evo_ki | exact evo_kb | exact rfl); (case hi => exact rfl); (case hz => first | with_reducible exact rfl | exact litN _ | exact rfl | exact natZ lz); (case hT => exact rfl); (case hd => exact rfl); (case hE => exact rfl); (case hu => first | exact getM lz | exact rfl | assumption); (case hs => first | exact lz | exact rfl)) | (apply Does.idxArrQ tt; (case ho => with_reducible exact rfl); (case hx => first | exact evo_ki | exact evo_kb | exact rfl); (case hi => exact rfl); (case hz => first | with_reducible exact rfl | exact litN _ | exact rfl | exact natZ lz); (case hT => exact rfl); (case hd => exact rfl); (case hE => exact rfl); (case hk => exact lz); (case hc => exact rfl))))) | (apply Does.gC; (case ho => with_reducible exact rfl); (case h => (first | (apply Does.len tt; (case ho => with_reducible exact rfl); (case hts => exact rfl); (case hx => first | exact evo_ki | exact evo_kb | exact rfl); (case hT => exact rfl); (case hd => exact rfl); (case hn => first | with_reducible exact List.length_map _ | exact rfl)) | (apply Does.lenNil tt; (case ho => with_reducible exact rfl); (case hts => exact rfl); (case hx => first | exact evo_ki | exact evo_kb | exact rfl); (case hT => exact rfl); (case hd => exact rfl)) | (apply Does.lenSb tt; (case ho => with_reducible exact rfl); (case hts => exact rfl); (case hx => first | exact evo_ki | exact evo_kb | exact rfl); (case hT => exact rfl); (case hd => exact rfl)) | (apply Does.lenSl tt; (case ho => with_reducible exact rfl); (case hts => exact rfl); (case hx => first | exact evo_ki | exact evo_kb | exact rfl); (case hT => exact rfl); (case hd => exact rfl)) | (apply Does.lenS tt; (case ho => with_reducible exact rfl); (case hts => exact rfl); (case hx => first | exact evo_ki | exact evo_kb | exact rfl); (case hT => exact rfl); (case hd => exact rfl)) | (apply Does.min; (case ho => with_reducible exact rfl); (case hx => first | exact evo_ki | exact evo_kb | exact rfl); (case hy => first | exact evo_ki | exact evo_kb | exact rfl); (case hr => first | with_reducible assumption | exact if_pos lz | exact if_neg lz | exact rfl)) | (apply Does.max; (case ho => with_reducible exact rfl); (case hx => first | exact evo_ki | exact evo_kb | exact rfl); (case hy => first | exact evo_ki | exact evo_kb | exact rfl); (case hr => first | with_reducible assumption | exact if_pos lz | exact if_neg lz | exact rfl)) | (apply Does.lenW tt; (case ho => with_reducible exact rfl); (case hts => exact rfl); (case hx => first | exact evo_ki | exact evo_kb | exact rfl); (case hT => exact rfl); (case hd => exact rfl)) | (apply Does.copyNS tt; (case ho => with_reducible exact rfl); (case hx => first | exact evo_ki | exact evo_kb | exact rfl); (case hy => first | exact evo_ki | exact evo_kb | exact rfl); (case hT => exact rfl); (case hd => exact rfl); (case hE => exact rfl)) | (apply Does.copyNN tt; (case ho => with_reducible exact rfl); (case hx => first | exact evo_ki | exact evo_kb | exact rfl); (case hy => first | exact evo_ki | exact evo_kb | exact rfl); (case hT => exact rfl); (case hd => exact rfl); (case hE => exact rfl)) | (apply Does.call; (case ho => with_reducible exact rfl); (case hx => exact rfl); (first | ((case' hc => apply c1); (case hu => first | exact .same _ | exact ft1 rfl | exact ft2 rfl | (apply ft1; simp only [V.cv, V.cv.go, V.cells, cv_mapb, cv_mapq, cv_mapu] <;> rfl))) | ((case' hc => apply c2); (case hu => first | exact .same _ | exact ft1 rfl | exact ft2 rfl | (apply ft1; simp only [V.cv, V.cv.go, V.cells, cv_mapb, cv_mapq, cv_mapu] <;> rfl))) | ((case' hc => apply c3); (case hu => first | exact .same _ | exact ft1 rfl | exact ft2 rfl | (apply ft1; simp only [V.cv, V.cv.go, V.cells, cv_mapb, cv_mapq, cv_mapu] <;> rfl))) | ((case' hc => apply c4); (case hu => first | exact .same _ | exact ft1 rfl | exact ft2 rfl | (apply ft1; simp only [V.cv, V.cv.go, V.cells, cv_mapb, cv_mapq, cv_mapu] <;> rfl))) | ((case' hc => apply c5); (case hu => first | exact .same _ | exact ft1 rfl | exact ft2 rfl | (apply ft1; simp only [V.cv, V.cv.go, V.cells, cv_mapb, cv_mapq, cv_mapu] <;> rfl))) | ((case' hc => apply c6); (case hu => first | exact .same _ | exact ft1 rfl | exact ft2 rfl | (apply ft1; simp only [V.cv, V.cv.go, V.cells, cv_mapb, cv_mapq, cv_mapu] <;> rfl))) | ((case' hc => apply c7); (case hu => first | exact .same _ | exact ft1 rfl | exact ft2 rfl | (apply ft1; simp only [V.cv, V.cv.go, V.cells, cv_mapb, cv_mapq, cv_mapu] <;> rfl))) | ((case' hc => apply c8); (case hu => first | exact .same _ | exact ft1 rfl | exact ft2 rfl | (apply ft1; simp only [V.cv, V.cv.go, V.cells, cv_mapb, cv_mapq, cv_mapu] <;> rfl))) | ((case' hc => apply c9); (case hu => first | exact .same _ | exact ft1 rfl | exact ft2 rfl | (apply ft1; simp only [V.cv, V.cv.go, V.cells, cv_mapb, cv_mapq, cv_mapu] <;> rfl))) | ((case' hc => apply c10); (case hu => first | exact .same _ | exact ft1 rfl | exact ft2 rfl | (apply ft1; simp only [V.cv, V.cv.go, V.cells, cv_mapb, cv_mapq, cv_mapu] <;> rfl))) | ((case' hc => apply c11); (case hu => first | exact .same _ | exact ft1 rfl | exact ft2 rfl | (apply ft1; simp only [V.cv, V.cv.go, V.cells, cv_mapb, cv_mapq, cv_mapu] <;> rfl))) | ((case' hc => apply c12); (case hu => first | exact .same _ | exact ft1 rfl | exact ft2 rfl | (apply ft1; simp only [V.cv, V.cv.go, V.cells, cv_mapb, cv_mapq, cv_mapu] <;> rfl))) | ((case' hc => apply c13); (case hu => first | exact .same _ | exact ft1 rfl | exact ft2 rfl | (apply ft1; simp only [V.cv, V.cv.go, V.cells, cv_mapb, cv_mapq, cv_mapu] <;> rfl))) | ((case' hc => apply c14); (case hu => first | exact .same _ | exact ft1 rfl | exact ft2 rfl | (apply ft1; simp only [V.cv, V.cv.go, V.cells, cv_mapb, cv_mapq, cv_mapu] <;> rfl))) | ((case' hc => apply c15); (case hu => first | exact .same _ | exact ft1 rfl | exact ft2 rfl | (apply ft1; simp only [V.cv, V.cv.go, V.cells, cv_mapb, cv_mapq, cv_mapu] <;> rfl))) | ((case' hc => apply c16); (case hu => first | exact .same _ | exact ft1 rfl | exact ft2 rfl | (apply ft1; simp only [V.cv, V.cv.go, V.cells, cv_mapb, cv_mapq, cv_mapu] <;> rfl)))); (case hr => first | exact rfl | (simp only [V.cells, refsE, refsM, V.refs, V.refs.go, V.pure, V.pure.go, pure_mapq, pure_mapb, pure_mapu, refs_mapq, refs_mapb, refs_mapu, refs_append, Bool.and_true, Bool.true_and, Bool.and_self] <;> exact rfl) | (simp only [V.cells, refsE, refsM, V.refs, V.refs.go, V.pure, V.pure.go, pure_mapq, pure_mapb, pure_mapu, refs_mapq, refs_mapb, refs_mapu, refs_append, Bool.and_true, Bool.true_and, Bool.and_self, hrf] <;> exact rfl) | (simp only [V.cells, refsE, refsM, V.refs, V.refs.go, V.pure, V.pure.go, pure_mapq, pure_mapb, pure_mapu, refs_mapq, refs_mapb, refs_mapu, refs_append, Bool.and_true, Bool.true_and, Bool.and_self, hrf, hrg] <;> exact rfl) | exact lz); all_goals exact lz) | (apply Does.callF; (case ho => with_reducible exact rfl); (case hf => exact rfl); (case hx => exact rfl); (first | ((case' hc => apply c1); (case hu => first | exact .same _ | exact ft1 rfl | exact ft2 rfl | (apply ft1; simp only [V.cv, V.cv.go, V.cells, cv_mapb, cv_mapq, cv_mapu] <;> rfl))) | ((case' hc => apply c2); (case hu => first | exact .same _ | exact ft1 rfl | exact ft2 rfl | (apply ft1; simp only [V.cv, V.cv.go, V.cells, cv_mapb, cv_mapq, cv_mapu] <;> rfl))) | ((case' hc => apply c3); (case hu => first | exact .same _ | exact ft1 rfl | exact ft2 rfl | (apply ft1; simp only [V.cv, V.cv.go, V.cells, cv_mapb, cv_mapq, cv_mapu] <;> rfl))) | ((case' hc => apply c4); (case hu => first | exact .same _ | exact ft1 rfl | exact ft2 rfl | (apply ft1; simp only [V.cv, V.cv.go, V.cells, cv_mapb, cv_mapq, cv_mapu] <;> rfl))) | ((case' hc => apply c5); (case hu => first | exact .same _ | exact ft1 rfl | exact ft2 rfl | (apply ft1; simp only [V.cv, V.cv.go, V.cells, cv_mapb, cv_mapq, cv_mapu] <;> rfl))) | ((case' hc => apply c6); (case hu => first | exact .same _ | exact ft1 rfl | exact ft2 rfl | (apply ft1; simp only [V.cv, V.cv.go, V.cells, cv_mapb, cv_mapq, cv_mapu] <;> rfl))) | ((case' hc => apply c7); (case hu => first | exact .same _ | exact ft1 rfl | exact ft2 rfl | (apply ft1; simp only [V.cv, V.cv.go, V.cells, cv_mapb, cv_mapq, cv_mapu] <;> rfl))) | ((case' hc => apply c8); (case hu => first | exact .same _ | exact ft1 rfl | exact ft2 rfl | (apply ft1; simp only [V.cv, V.cv.go, V.cells, cv_mapb, cv_mapq, cv_mapu] <;> rfl))) | ((case' hc => apply c9); (case hu => first | exact .same _ | exact ft1 rfl | exact ft2 rfl | (apply ft1; simp only [V.cv, V.cv.go, V.cells, cv_mapb, cv_mapq, cv_mapu] <;> rfl))) | ((case' hc => apply c10); (case hu => first | exact .same _ | exact ft1 rfl | exact ft2 rfl | (apply ft1; simp only [V.cv, V.cv.go, V.cells, cv_mapb, cv_mapq, cv_mapu] <;> rfl))) | ((case' hc => apply c11); (case hu => first | exact .same _ | exact ft1 rfl | exact ft2 rfl | (apply ft1; simp only [V.cv, V.cv.go, V.cells, cv_mapb, cv_mapq, cv_mapu] <;> rfl))) | ((case' hc => apply c12); (case hu => first | exact .same _ | exact ft1 rfl | exact ft2 rfl | (apply ft1; simp only [V.cv, V.cv.go, V.cells, cv_mapb, cv_mapq, cv_mapu] <;> rfl))) | ((case' hc => apply c13); (case hu => first | exact .same _ | exact ft1 rfl | exact ft2 rfl | (apply ft1; simp only [V.cv, V.cv.go, V.cells, cv_mapb, cv_mapq, cv_mapu] <;> rfl))) | ((case' hc => apply c14); (case hu => first | exact .same _ | exact ft1 rfl | exact ft2 rfl | (apply ft1; simp only [V.cv, V.cv.go, V.cells, cv_mapb, cv_mapq, cv_mapu] <;> rfl))) | ((case' hc => apply c15); (case hu => first | exact .same _ | exact ft1 rfl | exact ft2 rfl | (apply ft1; simp only [V.cv, V.cv.go, V.cells, cv_mapb, cv_mapq, cv_mapu] <;> rfl))) | ((case' hc => apply c16); (case hu => first | exact .same _ | exact ft1 rfl | exact ft2 rfl | (apply ft1; simp only [V.cv, V.cv.go, V.cells, cv_mapb, cv_mapq, cv_mapu] <;> rfl)))); (case hr => first | exact rfl | (simp only [V.cells, refsE, refsM, V.refs, V.refs.go, V.pure, V.pure.go, pure_mapq, pure_mapb, pure_mapu, refs_mapq, refs_mapb, refs_mapu, refs_append, Bool.and_true, Bool.true_and, Bool.and_self] <;> exact rfl) | (simp only [V.cells, refsE, refsM, V.refs, V.refs.go, V.pure, V.pure.go, pure_mapq, pure_mapb, pure_mapu, refs_mapq, refs_mapb, refs_mapu, refs_append, Bool.and_true, Bool.true_and, Bool.and_self, hrf] <;> exact rfl) | (simp only [V.cells, refsE, refsM, V.refs, V.refs.go, V.pure, V.pure.go, pure_mapq, pure_mapb, pure_mapu, refs_mapq, refs_mapb, refs_mapu, refs_append, Bool.and_true, Bool.true_and, Bool.and_self, hrf, hrg] <;> exact rfl) | exact lz); all_goals exact lz)))) | (apply Does.gF; (case ho => with_reducible exact rfl); (case h => (first | (apply Does.fieldAddr tt; (case ho => with_reducible exact rfl); (case hx => first | exact evo_ki | exact evo_kb | exact rfl); (case hT => exact rfl); (case hd => exact rfl); (case hf => exact rfl); (case hF => exact rfl); (case hs => exact rfl)) | (apply Does.fieldAddrQ tt; (case ho => with_reducible exact rfl); (case hx => first | exact evo_ki | exact evo_kb | exact rfl); (case hT => exact rfl); (case hd => exact rfl); (case hf => exact rfl); (case hF => exact rfl); (case hs => exact rfl); (case hc => exact rfl))))) | (apply Does.gU; (case ho => with_reducible exact rfl); (case h => (first | (apply Does.not; (case ho => with_reducible exact rfl); (case hx => first | exact evo_ki | exact evo_kb | exact rfl)) | (apply Does.neg; (case ho => with_reducible exact rfl); (case hx => first | exact evo_ki | exact evo_kb | exact rfl); (case hr => first | with_reducible assumption | exact wrap_i64 (by omega) | exact rfl)) | (apply Does.inv; (case ho => with_reducible exact rfl); (case hx => first | exact evo_ki | exact evo_kb | exact rfl); (case hr => first | with_reducible assumption | exact rfl))))) | (apply Does.asrtOk tt; (case ho => with_reducible exact rfl); (case hx => first | exact evo_ki | exact evo_kb | exact rfl); (case hT => exact rfl); (case hd => exact rfl)) | (apply Does.extract; (case ho => with_reducible exact rfl); (case hx => first | exact evo_ki | exact evo_kb | exact rfl); (case hv => exact rfl)) | (apply Does.loadQ tt; (case ho => with_reducible exact rfl); (case hx => first | exact evo_ki | exact evo_kb | exact rfl); (case hT => exact rfl); (case hv => (first | exact part_map rfl rfl lz | exact part_whole rfl lz | (apply ld1 <;> first | exact rfl | exact lz) | (apply ld2 <;> first | exact rfl | exact lz) | (apply ld3 <;> first | exact rfl | exact lz) | (apply ld4 <;> first | exact rfl | exact lz) | (apply ld5 <;> first | exact rfl | exact lz) | (apply ld6 <;> first | exact rfl | exact lz) | (apply ld7 <;> first | exact rfl | exact lz) | (apply part_l; (first | exact part_map rfl rfl lz | exact part_whole rfl lz | exact rfl)) | (apply part_l; apply part_r; (case hl => first | exact (List.length_map _).trans (by assumption) | ((try apply (List.length_map _).trans); (repeat apply List.length_set.trans); assumption) | rfl); (case hk => first | exact off_s | exact off_r (by decide) | exact off_r lz); (first | exact part_map rfl rfl lz | exact part_whole rfl lz | exact rfl)) | (apply part_r; (case hl => first | exact (List.length_map _).trans (by assumption) | ((try apply (List.length_map _).trans); (repeat apply List.length_set.trans); assumption) | rfl); (case hk => first | exact off_s | exact off_r (by decide) | exact off_r lz); first | (apply part_l; (first | exact part_map rfl rfl lz | exact part_whole rfl lz | exact rfl)) | (apply part_r; (case hl => first | exact (List.length_map _).trans (by assumption) | ((try apply (List.length_map _).trans); (repeat apply List.length_set.trans); assumption) | rfl); (case hk => first | exact off_s | exact off_r (by decide) | exact off_r lz); (first | exact part_map rfl rfl lz | exact part_whole rfl lz | exact rfl)) | (first | exact part_map rfl rfl lz | exact part_whole rfl lz | exact rfl)) | exact rfl))) | (apply Does.field tt; (case ho => with_reducible exact rfl); (case hx => first | exact evo_ki | exact evo_kb | exact rfl); (case hT => exact rfl); (case hd => exact rfl); (case hf => exact rfl); (case hF => exact rfl); (case hv => (first | exact part_map rfl rfl lz | exact part_whole rfl lz | (apply ld1 <;> first | exact rfl | exact lz) | (apply ld2 <;> first | exact rfl | exact lz) | (apply ld3 <;> first | exact rfl | exact lz) | (apply ld4 <;> first | exact rfl | exact lz) | (apply ld5 <;> first | exact rfl | exact lz) | (apply ld6 <;> first | exact rfl | exact lz) | (apply ld7 <;> first | exact rfl | exact lz) | (apply part_l; (first | exact part_map rfl rfl lz | exact part_whole rfl lz | exact rfl)) | (apply part_l; apply part_r; (case hl => first | exact (List.length_map _).trans (by assumption) | ((try apply (List.length_map _).trans); (repeat apply List.length_set.trans); assumption) | rfl); (case hk => first | exact off_s | exact off_r (by decide) | exact off_r lz); (first | exact part_map rfl rfl lz | exact part_whole rfl lz | exact rfl)) | (apply part_r; (case hl => first | exact (List.length_map _).trans (by assumption) | ((try apply (List.length_map _).trans); (repeat apply List.length_set.trans); assumption) | rfl); (case hk => first | exact off_s | exact off_r (by decide) | exact off_r lz); first | (apply part_l; (first | exact part_map rfl rfl lz | exact part_whole rfl lz | exact rfl)) | (apply part_r; (case hl => first | exact (List.length_map _).trans (by assumption) | ((try apply (List.length_map _).trans); (repeat apply List.length_set.trans); assumption) | rfl); (case hk => first | exact off_s | exact off_r (by decide) | exact off_r lz); (first | exact part_map rfl rfl lz | exact part_whole rfl lz | exact rfl)) | (first | exact part_map rfl rfl lz | exact part_whole rfl lz | exact rfl)) | exact rfl))) | (apply Does.index1 tt; (case ho => with_reducible exact rfl); (case hx => first | exact evo_ki | exact evo_kb | exact rfl); (case hi => exact rfl); (case hz => first | with_reducible exact rfl | exact litN _ | exact rfl | exact natZ lz); (case hT => exact rfl); (case hd => exact rfl); (case hE => exact rfl); (case hs => exact rfl); (case hk => exact lz); (case hv => (first | exact part_map rfl rfl lz | exact part_whole rfl lz | (apply ld1 <;> first | exact rfl | exact lz) | (apply ld2 <;> first | exact rfl | exact lz) | (apply ld3 <;> first | exact rfl | exact lz) | (apply ld4 <;> first | exact rfl | exact lz) | (apply ld5 <;> first | exact rfl | exact lz) | (apply ld6 <;> first | exact rfl | exact lz) | (apply ld7 <;> first | exact rfl | exact lz) | (apply part_l; (first | exact part_map rfl rfl lz | exact part_whole rfl lz | exact rfl)) | (apply part_l; apply part_r; (case hl => first | exact (List.length_map _).trans (by assumption) | ((try apply (List.length_map _).trans); (repeat apply List.length_set.trans); assumption) | rfl); (case hk => first | exact off_s | exact off_r (by decide) | exact off_r lz); (first | exact part_map rfl rfl lz | exact part_whole rfl lz | exact rfl)) | (apply part_r; (case hl => first | exact (List.length_map _).trans (by assumption) | ((try apply (List.length_map _).trans); (repeat apply List.length_set.trans); assumption) | rfl); (case hk => first | exact off_s | exact off_r (by decide) | exact off_r lz); first | (apply part_l; (first | exact part_map rfl rfl lz | exact part_whole rfl lz | exact rfl)) | (apply part_r; (case hl => first | exact (List.length_map _).trans (by assumption) | ((try apply (List.length_map _).trans); (repeat apply List.length_set.trans); assumption) | rfl); (case hk => first | exact off_s | exact off_r (by decide) | exact off_r lz); (first | exact part_map rfl rfl lz | exact part_whole rfl lz | exact rfl)) | (first | exact part_map rfl rfl lz | exact part_whole rfl lz | exact rfl)) | exact rfl))) | (apply Does.index tt; (case ho => with_reducible exact rfl); (case hx => first | exact evo_ki | exact evo_kb | exact rfl); (case hi => exact rfl); (case hz => first | with_reducible exact rfl | exact litN _ | exact rfl | exact natZ lz); (case hT => exact rfl); (case hd => exact rfl); (case hE => exact rfl); (case hk => exact lz); (case hv => (first | exact part_map rfl rfl lz | exact part_whole rfl lz | (apply ld1 <;> first | exact rfl | exact lz) | (apply ld2 <;> first | exact rfl | exact lz) | (apply ld3 <;> first | exact rfl | exact lz) | (apply ld4 <;> first | exact rfl | exact lz) | (apply ld5 <;> first | exact rfl | exact lz) | (apply ld6 <;> first | exact rfl | exact lz) | (apply ld7 <;> first | exact rfl | exact lz) | (apply part_l; (first | exact part_map rfl rfl lz | exact part_whole rfl lz | exact rfl)) | (apply part_l; apply part_r; (case hl => first | exact (List.length_map _).trans (by assumption) | ((try apply (List.length_map _).trans); (repeat apply List.length_set.trans); assumption) | rfl); (case hk => first | exact off_s | exact off_r (by decide) | exact off_r lz); (first | exact part_map rfl rfl lz | exact part_whole rfl lz | exact rfl)) | (apply part_r; (case hl => first | exact (List.length_map _).trans (by assumption) | ((try apply (List.length_map _).trans); (repeat apply List.length_set.trans); assumption) | rfl); (case hk => first | exact off_s | exact off_r (by decide) | exact off_r lz); first | (apply part_l; (first | exact part_map rfl rfl lz | exact part_whole rfl lz | exact rfl)) | (apply part_r; (case hl => first | exact (List.length_map _).trans (by assumption) | ((try apply (List.length_map _).trans); (repeat apply List.length_set.trans); assumption) | rfl); (case hk => first | exact off_s | exact off_r (by decide) | exact off_r lz); (first | exact part_map rfl rfl lz | exact part_whole rfl lz | exact rfl)) | (first | exact part_map rfl rfl lz | exact part_whole rfl lz | exact rfl)) | exact rfl))) | (apply Does.buildArr tt; (case ho => with_reducible exact rfl); (case hT => exact rfl); (case hd => exact rfl); (case hE => exact rfl); (case hv => exact rfl); (case hc => first | exact vfill_two rfl ((List.length_map _).trans (by assumption)) ((List.length_map _).trans (by assumption)) | exact rfl)) | (apply Does.buildSt tt; (case ho => with_reducible exact rfl); (case hT => exact rfl); (case hd => exact rfl); (case hpl => exact rfl); (case hv => exact rfl); (case hc => exact rfl)) | (apply Does.pick; (case ho => with_reducible exact rfl); (case hc => exact rfl); (case hx => first | exact evo_ki | exact evo_kb | exact rfl)) | (apply Does.pickT; (case ho => with_reducible exact rfl); (case hc => exact rfl); (case hb => assumption); (case hx => first | exact evo_ki | exact evo_kb | exact rfl)) | (apply Does.pickF; (case ho => with_reducible exact rfl); (case hc => exact rfl); (case hb => assumption); (case hx => first | exact evo_ki | exact evo_kb | exact rfl)) | (apply Does.pickB; (case ho => with_reducible exact rfl); (case hc => exact rfl); (case hx => first | exact evo_ki | exact evo_kb | exact rfl); (case hy => first | exact evo_ki | exact evo_kb | exact rfl)) | (apply Does.conv tt; (case ho => with_reducible exact rfl); (case hx => first | exact evo_ki | exact evo_kb | exact rfl); (case hS => exact rfl); (case hT => exact rfl); (case hd => exact rfl); (case hr => first | with_reducible assumption | exact wrap_i64 (by omega) | exact wrap_u64 (by omega) | exact wrap_u8 (by omega) | exact to_u8b | exact to_u64 | exact rfl)) | (apply Does.toStr tt; (case ho => with_reducible exact rfl); (case hx => first | exact evo_ki | exact evo_kb | exact rfl); (case hS => exact rfl); (case hd => exact rfl); (case hE => exact rfl); (case hdE => exact rfl); (case hT => exact rfl); (case hdT => exact rfl)) | (apply Does.mkIface tt; (case ho => with_reducible exact rfl); (case hx => first | exact evo_ki | exact evo_kb | exact rfl); (case hT => exact rfl); (case hd => exact rfl)) | (apply Does.nilCheck; (case ho => with_reducible exact rfl); (case hx => first | exact evo_ki | exact evo_kb | exact rfl)) | (apply Does.nilCheckQ; (case ho => with_reducible exact rfl); (case hx => first | exact evo_ki | exact evo_kb | exact rfl)) | (apply Does.nilCheckF; (case ho => with_reducible exact rfl); (case hx => first | exact evo_ki | exact evo_kb | exact rfl)) | (apply Does.arrAt tt; (case ho => with_reducible exact rfl); (case hx => first | exact evo_ki | exact evo_kb | exact rfl); (case hT => exact rfl); (case hd => exact rfl); (case hn => exact lz); (case h0 => exact rfl)) | (apply Does.arrAtSb tt; (case ho => with_reducible exact rfl); (case hx => first | exact evo_ki | exact evo_kb | exact rfl); (case hT => exact rfl); (case hd => exact rfl); (case hn => exact lz)) | (apply Does.cut tt; (case ho => with_reducible exact rfl); (case hx => first | exact evo_ki | exact evo_kb | exact rfl); (case hT => exact rfl); (case hd => exact rfl); (case hE => exact rfl); (case hlo => (first | exact Bd.none | exact Bd.some rfl (by first | with_reducible exact rfl | exact litN _ | exact rfl))); (case hhi => (first | exact Bd.none | exact Bd.some rfl (by first | with_reducible exact rfl | exact litN _ | exact rfl))); (case h1 => exact lz); (case h2 => exact lz); (case hs => exact sz'); (case he => first | exact cut_all | exact cut_lo | exact cut_hi | exact cut_map | exact rfl)) | (apply Does.cutSb tt; (case ho => with_reducible exact rfl); (case hx => first | exact evo_ki | exact evo_kb | exact rfl); (case hT => exact rfl); (case hd => exact rfl); (case hE => exact rfl); (case hlo => (first | exact Bd.none | exact Bd.some rfl (by first | with_reducible exact rfl | exact litN _ | exact rfl))); (case hhi => (first | exact Bd.none | exact Bd.some rfl (by first | with_reducible exact rfl | exact litN _ | exact rfl))); (case h1 => exact lz); (case h2 => exact lz); (case h3 => exact lz)) | (apply Does.cutSbE tt; (case ho => with_reducible exact rfl); (case hx => first | exact evo_ki | exact evo_kb | exact rfl); (case hT => exact rfl); (case hd => exact rfl); (case hE => exact rfl); (case hlo => (first | exact Bd.none | exact Bd.some rfl (by first | with_reducible exact rfl | exact litN _ | exact rfl))); (case hhi => (first | exact Bd.none | exact Bd.some rfl (by first | with_reducible exact rfl | exact litN _ | exact rfl))); (case h1 => exact lz); (case h2 => exact lz)) | (apply Does.cutA0 tt; (case ho => with_reducible exact rfl); (case hx => first | exact evo_ki | exact evo_kb | exact rfl); (case hT => exact rfl); (case hd => exact rfl); (case hE => exact rfl); (case hs => exact rfl); (case hlo => (first | exact Bd.none | exact Bd.some rfl (by first | with_reducible exact rfl | exact litN _ | exact rfl))); (case hhi => (first | exact Bd.none | exact Bd.some rfl (by first | with_reducible exact rfl | exact litN _ | exact rfl))); (case h1 => exact lz); (case h2 => exact lz); (case h3 => exact lz)) | (apply Does.cutA1 tt; (case ho => with_reducible exact rfl); (case hx => first | exact evo_ki | exact evo_kb | exact rfl); (case hT => exact rfl); (case hd => exact rfl); (case hE => exact rfl); (case hs => exact rfl); (case hlo => (first | exact Bd.none | exact Bd.some rfl (by first | with_reducible exact rfl | exact litN _ | exact rfl))); (case hhi => (first | exact Bd.none | exact Bd.some rfl (by first | with_reducible exact rfl | exact litN _ | exact rfl))); (case h1 => exact lz); (case h2 => exact lz); (case h3 => exact lz)) | (apply Does.cutSl tt; (case ho => with_reducible exact rfl); (case hx => first | exact evo_ki | exact evo_kb | exact rfl); (case hT => exact rfl); (case hd => exact rfl); (case hlo => (first | exact Bd.none | exact Bd.some rfl (by first | with_reducible exact rfl | exact litN _ | exact rfl))); (case hhi => (first | exact Bd.none | exact Bd.some rfl (by first | with_reducible exact rfl | exact litN _ | exact rfl))); (case h1 => exact lz); (case h2 => exact lz)) | (apply Does.indexSl tt; (case ho => with_reducible exact rfl); (case hx => first | exact evo_ki | exact evo_kb | exact rfl); (case hi => exact rfl); (case hz => first | with_reducible exact rfl | exact litN _ | exact rfl | exact natZ lz); (case hT => exact rfl); (case hd => exact rfl); (case hk => exact lz)) | (apply Does.cutS tt; (case ho => with_reducible exact rfl); (case hx => first | exact evo_ki | exact evo_kb | exact rfl); (case hT => exact rfl); (case hd => exact rfl); (case hlo => (first | exact Bd.none | exact Bd.some rfl (by first | with_reducible exact rfl | exact litN _ | exact rfl))); (case hhi => (first | exact Bd.none | exact Bd.some rfl (by first | with_reducible exact rfl | exact litN _ | exact rfl))); (case h1 => exact lz); (case h2 => exact lz)) | (apply Does.indexS tt; (case ho => with_reducible exact rfl); (case hx => first | exact evo_ki | exact evo_kb | exact rfl); (case hi => exact rfl); (case hz => first | with_reducible exact rfl | exact litN _ | exact rfl | exact natZ lz); (case hT => exact rfl); (case hd => exact rfl); (case hk => exact lz)) | (apply Does.mkFunc; (case ho => with_reducible exact rfl); (case h1 => exact rfl); (case h2 => exact rfl)))); (case hd => exact rfl)) | (apply DR.st tt; (case ho => with_reducible exact rfl); (case hg => first | exact rfl | exact gd_y rfl rfl rfl (by assumption)); (case hds => exact rfl); (case hx => first | exact evo_ki | exact evo_kb | exact rfl); (case hy => first | exact evo_ki | exact evo_kb | exact rfl); (case hm => exact rfl); (case hT => exact rfl); (case hu => exact rfl); (case hs => first | exact rfl | exact beq_len lz); (case hle => first | exact rfl | exact ble_map1 lz | exact ble_len lz | exact Nat.ble_eq_true_of_le lz); (case hcs => (first | exact splice_map rfl lz | exact splice_all lz | (apply splice_l; (case h => (first | exact splice_map rfl lz | exact splice_one rfl | exact splice_all lz | exact rfl)); exact lz) | (apply splice_r; (case hl => first | exact (List.length_map _).trans (by assumption) | ((try apply (List.length_map _).trans); (repeat apply List.length_set.trans); assumption) | rfl); (case hk => first | exact off_s | exact off_r (by decide) | exact off_r lz); first | (apply splice_l; (case h => (first | exact splice_map rfl lz | exact splice_one rfl | exact splice_all lz | exact rfl)); exact lz) | (apply splice_r; (case hl => first | exact (List.length_map _).trans (by assumption) | ((try apply (List.length_map _).trans); (repeat apply List.length_set.trans); assumption) | rfl); (case hk => first | exact off_s | exact off_r (by decide) | exact off_r lz); (first | exact splice_map rfl lz | exact splice_one rfl | exact splice_all lz | exact rfl)) | (first | exact splice_map rfl lz | exact splice_one rfl | exact splice_all lz | exact rfl)) | (apply splice_lit; (case hl => first | exact (List.length_map _).trans (by assumption)); (case he => (simp only [List.take_succ_cons, List.take_zero, List.drop_succ_cons, List.drop_zero, List.drop_nil, List.cons_append, List.nil_append, Nat.reduceAdd, Nat.zero_add]); exact rfl)) | (simp only [splice, List.map_cons, List.map_nil, Z.v, cells_k, cells_a, cells_uK, cells_bK, cells_s, cells_nil, List.take_succ_cons, List.take_zero, List.take_nil, List.drop_succ_cons, List.drop_zero, List.drop_nil, List.cons_append, List.nil_append, List.append_nil, List.length_cons, List.length_nil, Nat.reduceAdd, Nat.reduceMul, Nat.zero_add]; exact rfl) | exact rfl))) | (apply DR.nn; (case hg => first | exact rfl | exact gd_y rfl rfl rfl (by assumption)); (case hds => exact rfl); (case h => (first | (apply Does.buildSliceB tt; (case ho => with_reducible exact rfl); (case _hb => assumption); (case hT => exact rfl); (case hd => exact rfl); (case hE => exact rfl); (case hpos => exact rfl); (case hv => first | exact evp0 | exact evp1 (by first | exact evo_ki | exact evo_kb | exact rfl) | exact evp2 (by first | exact evo_ki | exact evo_kb | exact rfl) (by first | exact evo_ki | exact evo_kb | exact rfl) | exact evp3 (by first | exact evo_ki | exact evo_kb | exact rfl) (by first | exact evo_ki | exact evo_kb | exact rfl) (by first | exact evo_ki | exact evo_kb | exact rfl) | exact rfl); (case hde => first | exact dense0 | exact dense1 (by first | exact hbr _ | with_reducible exact bare_k | with_reducible exact bare_s | with_reducible exact bare_am (fun _ => rfl) | exact bare_k | exact bare_s | exact bare_am2 (fun _ => rfl) | exact bare_am (fun _ => rfl) | exact rfl) | exact dense2 (by first | exact hbr _ | with_reducible exact bare_k | with_reducible exact bare_s | with_reducible exact bare_am (fun _ => rfl) | exact bare_k | exact bare_s | exact bare_am2 (fun _ => rfl) | exact bare_am (fun _ => rfl) | exact rfl) (by first | exact hbr _ | with_reducible exact bare_k | with_reducible exact bare_s | with_reducible exact bare_am (fun _ => rfl) | exact bare_k | exact bare_s | exact bare_am2 (fun _ => rfl) | exact bare_am (fun _ => rfl) | exact rfl) | exact dense3 (by first | exact hbr _ | with_reducible exact bare_k | with_reducible exact bare_s | with_reducible exact bare_am (fun _ => rfl) | exact bare_k | exact bare_s | exact bare_am2 (fun _ => rfl) | exact bare_am (fun _ => rfl) | exact rfl) (by first | exact hbr _ | with_reducible exact bare_k | with_reducible exact bare_s | with_reducible exact bare_am (fun _ => rfl) | exact bare_k | exact bare_s | exact bare_am2 (fun _ => rfl) | exact bare_am (fun _ => rfl) | exact rfl) (by first | exact hbr _ | with_reducible exact bare_k | with_reducible exact bare_s | with_reducible exact bare_am (fun _ => rfl) | exact bare_k | exact bare_s | exact bare_am2 (fun _ => rfl) | exact bare_am (fun _ => rfl) | exact rfl) | exact dense4 (by first | exact hbr _ | with_reducible exact bare_k | with_reducible exact bare_s | with_reducible exact bare_am (fun _ => rfl) | exact bare_k | exact bare_s | exact bare_am2 (fun _ => rfl) | exact bare_am (fun _ => rfl) | exact rfl) (by first | exact hbr _ | with_reducible exact bare_k | with_reducible exact bare_s | with_reducible exact bare_am (fun _ => rfl) | exact bare_k | exact bare_s | exact bare_am2 (fun _ => rfl) | exact bare_am (fun _ => rfl) | exact rfl) (by first | exact hbr _ | with_reducible exact bare_k | with_reducible exact bare_s | with_reducible exact bare_am (fun _ => rfl) | exact bare_k | exact bare_s | exact bare_am2 (fun _ => rfl) | exact bare_am (fun _ => rfl) | exact rfl) (by first | exact hbr _ | with_reducible exact bare_k | with_reducible exact bare_s | with_reducible exact bare_am (fun _ => rfl) | exact bare_k | exact bare_s | exact bare_am2 (fun _ => rfl) | exact bare_am (fun _ => rfl) | exact rfl) | exact rfl); (case hlen => exact rfl); (case h0 => exact rfl); (case hsm => exact rfl); (case hs => first | exact sz' | exact all_sizes rfl | exact lz); (case ho1 => exact rfl); (case hcs => first | exact flat_a1 | exact flat_a2 | exact rfl)) | (apply Does.rangeS tt; (case ho => with_reducible exact rfl); (case hx => first | exact evo_ki | exact evo_kb | exact rfl); (case hT => exact rfl); (case hd => exact rfl)) | (apply Does.alloc tt; (case ho => with_reducible exact rfl); (case hT => exact rfl)) | (apply Does.box; (case ho => with_reducible exact rfl); (case hx => first | exact evo_ki | exact evo_kb | exact rfl); (case hu => exact rfl)) | (apply Does.buildSlice tt; (case ho => with_reducible exact rfl); (case hT => exact rfl); (case hd => exact rfl); (case hE => exact rfl); (case hpos => exact rfl); (case hv => first | exact evp0 | exact evp1 (by first | exact evo_ki | exact evo_kb | exact rfl) | exact evp2 (by first | exact evo_ki | exact evo_kb | exact rfl) (by first | exact evo_ki | exact evo_kb | exact rfl) | exact evp3 (by first | exact evo_ki | exact evo_kb | exact rfl) (by first | exact evo_ki | exact evo_kb | exact rfl) (by first | exact evo_ki | exact evo_kb | exact rfl) | exact rfl); (case hde => first | exact dense0 | exact dense1 (by first | exact hbr _ | with_reducible exact bare_k | with_reducible exact bare_s | with_reducible exact bare_am (fun _ => rfl) | exact bare_k | exact bare_s | exact bare_am2 (fun _ => rfl) | exact bare_am (fun _ => rfl) | exact rfl) | exact dense2 (by first | exact hbr _ | with_reducible exact bare_k | with_reducible exact bare_s | with_reducible exact bare_am (fun _ => rfl) | exact bare_k | exact bare_s | exact bare_am2 (fun _ => rfl) | exact bare_am (fun _ => rfl) | exact rfl) (by first | exact hbr _ | with_reducible exact bare_k | with_reducible exact bare_s | with_reducible exact bare_am (fun _ => rfl) | exact bare_k | exact bare_s | exact bare_am2 (fun _ => rfl) | exact bare_am (fun _ => rfl) | exact rfl) | exact dense3 (by first | exact hbr _ | with_reducible exact bare_k | with_reducible exact bare_s | with_reducible exact bare_am (fun _ => rfl) | exact bare_k | exact bare_s | exact bare_am2 (fun _ => rfl) | exact bare_am (fun _ => rfl) | exact rfl) (by first | exact hbr _ | with_reducible exact bare_k | with_reducible exact bare_s | with_reducible exact bare_am (fun _ => rfl) | exact bare_k | exact bare_s | exact bare_am2 (fun _ => rfl) | exact bare_am (fun _ => rfl) | exact rfl) (by first | exact hbr _ | with_reducible exact bare_k | with_reducible exact bare_s | with_reducible exact bare_am (fun _ => rfl) | exact bare_k | exact bare_s | exact bare_am2 (fun _ => rfl) | exact bare_am (fun _ => rfl) | exact rfl) | exact dense4 (by first | exact hbr _ | with_reducible exact bare_k | with_reducible exact bare_s | with_reducible exact bare_am (fun _ => rfl) | exact bare_k | exact bare_s | exact bare_am2 (fun _ => rfl) | exact bare_am (fun _ => rfl) | exact rfl) (by first | exact hbr _ | with_reducible exact bare_k | with_reducible exact bare_s | with_reducible exact bare_am (fun _ => rfl) | exact bare_k | exact bare_s | exact bare_am2 (fun _ => rfl) | exact bare_am (fun _ => rfl) | exact rfl) (by first | exact hbr _ | with_reducible exact bare_k | with_reducible exact bare_s | with_reducible exact bare_am (fun _ => rfl) | exact bare_k | exact bare_s | exact bare_am2 (fun _ => rfl) | exact bare_am (fun _ => rfl) | exact rfl) (by first | exact hbr _ | with_reducible exact bare_k | with_reducible exact bare_s | with_reducible exact bare_am (fun _ => rfl) | exact bare_k | exact bare_s | exact bare_am2 (fun _ => rfl) | exact bare_am (fun _ => rfl) | exact rfl) | exact rfl); (case hlen => exact rfl); (case hsm => exact rfl); (case hs => first | exact sz' | exact all_sizes rfl); (case ho1 => exact rfl)) | (apply Does.appNil tt; (case ho => with_reducible exact rfl); (case hx => first | exact evo_ki | exact evo_kb | exact rfl); (case hy => first | exact evo_ki | exact evo_kb | exact rfl); (case hT => exact rfl); (case hd => exact rfl); (case hE => exact rfl); (case hpos => exact rfl); (case hX => exact rfl); (case hdx => exact rfl); (case hys => exact sz'); (case hn => exact rfl); (case hmax => exact lz); (case hb => exact lz)))); (case ht => exact rfl); (case hd => exact rfl)) | (apply DR.aq tt; (case ho => with_reducible exact rfl); (case hg => first | exact rfl | exact gd_y rfl rfl rfl (by assumption)); (case hds => exact rfl); (case hx => first | exact evo_ki | exact evo_kb | exact rfl); (case hy => first | exact evo_ki | exact evo_kb | exact rfl); (case hm => exact rfl); (case hn0 => exact lz); (case hT => exact rfl); (case hdt => exact rfl); (case hE => exact rfl); (case hsz => exact rfl); (case hX => exact rfl); (case hdx => exact rfl); (case hes => exact sz'); (case hys => exact sz'); (case hz => first | exact app_map | exact app_nilmap | exact app_one1 | exact app_one2 | exact app_two | exact app_bl rfl | exact rfl); (case hn => first | exact List.length_map _ | exact rfl); (case hmax => exact lz); (case hb => exact lz); (case hd => exact rfl)) | (apply DR.ww; (case hg => first | exact rfl | exact gd_y rfl rfl rfl (by assumption)); (case hds => exact rfl); (case h => (apply Does.nextS; (case ho => with_reducible exact rfl); (case hb => exact rfl); (case hx => first | exact evo_ki | exact evo_kb | exact rfl); (case hp => exact lz); (case hc => assumption); (case hw => assumption))); (case ht => exact rfl); (case hd => exact rfl)) | (apply DR.rr; (case hg => first | exact rfl | exact gd_y rfl rfl rfl (by assumption)); (case hds => exact rfl); (case h => (apply Does.nextE; (case ho => with_reducible exact rfl); (case hb => exact rfl); (case hx => first | exact evo_ki | exact evo_kb | exact rfl); (case hp => exact lz))); (case ht => exact rfl); (case hd => exact rfl)) | (apply DR.ab tt; (case ho => with_reducible exact rfl); (case hg => first | exact rfl | exact gd_y rfl rfl rfl (by assumption)); (case hds => exact rfl); (case hx => first | exact evo_ki | exact evo_kb | exact rfl); (case hy => first | exact evo_ki | exact evo_kb | exact rfl); (case hm => exact rfl); (case hb2 => exact rfl); (case hn0 => exact lz); (case hT => exact rfl); (case hdt => exact rfl); (case hE => exact rfl); (case hsz => exact rfl); (case hs1 => exact rfl); (case hX => exact rfl); (case hdx => exact rfl); (case hcs => first | exact sub_map | (apply sub_l; (case hs => exact sub_map); exact lz) | (apply sub_r; (case hl => first | exact (List.length_map _).trans (by assumption) | ((try apply (List.length_map _).trans); (repeat apply List.length_set.trans); assumption) | rfl); (case hk => first | exact off_s | exact off_r (by decide) | exact off_r lz); first | (apply sub_l; (case hs => exact sub_map); exact lz) | exact sub_map)); (case hf => exact fun _ => rfl); (case hl => exact lz); (case hr => exact fun _ => rfl); (case hes => exact sz'); (case hz => first | exact app_map | exact app_nilmap | exact rfl); (case hn => first | exact List.length_map _ | exact rfl); (case hmax => exact lz); (case hb => exact lz); (case hd => exact rfl)) | (apply DR.rr; (case hg => first | exact rfl | exact gd_y rfl rfl rfl (by assumption)); (case hds => exact rfl); (case' h => (first | (apply Does.idxW1 tt; (case ho => with_reducible exact rfl); (case hx => first | exact evo_ki | exact evo_kb | exact rfl); (case hi => exact rfl); (case hz => first | with_reducible exact rfl | exact litN _ | exact rfl | exact natZ lz); (case hT => exact rfl); (case hd => exact rfl); (case hE => exact rfl); (case hsz => exact rfl); (case hs1 => exact rfl); (case hk => exact lz); (case hq => first | exact Nat.zero_add _ | exact Nat.add_zero _ | exact rfl)) | (apply Does.idxWm tt; (case ho => with_reducible exact rfl); (case hx => first | exact evo_ki | exact evo_kb | exact rfl); (case hi => exact rfl); (case hz => first | with_reducible exact rfl | exact litN _ | exact rfl | exact natZ lz); (case hT => exact rfl); (case hd => exact rfl); (case hE => exact rfl); (case hsz => exact rfl); (case hk => exact lz); (case hq => first | exact Nat.zero_add _ | exact Nat.add_zero _ | exact rfl)))); (case ht => exact rfl); (case hd => exact rfl)) | (apply DR.cutz tt; (case ho => with_reducible exact rfl); (case hg => first | exact rfl | exact gd_y rfl rfl rfl (by assumption)); (case hds => exact rfl); (case hx => first | exact evo_ki | exact evo_kb | exact rfl); (case hm => exact rfl); (case _hes => exact lz); (case hT => exact rfl); (case hdt => exact rfl); (case hE => exact rfl); (case hsz => exact rfl); (case hlo => (first | exact Bd.none | exact Bd.some rfl (by first | with_reducible exact rfl | exact litN _ | exact rfl))); (case hhi => (first | exact Bd.none | exact Bd.some rfl (by first | with_reducible exact rfl | exact litN _ | exact rfl))); (case h1 => exact lz); (case h2 => exact lz); (case hn => first | with_reducible assumption | exact Nat.add_sub_cancel_left _ _ | exact Nat.sub_zero _ | exact rfl); (case hd => exact rfl)) | (apply DR.cuts tt; (case ho => with_reducible exact rfl); (case hg => first | exact rfl | exact gd_y rfl rfl rfl (by assumption)); (case hds => exact rfl); (case hx => first | exact evo_ki | exact evo_kb | exact rfl); (case hm => exact rfl); (case _hes => exact lz); (case hT => exact rfl); (case hdt => exact rfl); (case hE => exact rfl); (case hsz => exact rfl); (case hlo => (first | exact Bd.none | exact Bd.some rfl (by first | with_reducible exact rfl | exact litN _ | exact rfl))); (case hhi => (first | exact Bd.none | exact Bd.some rfl (by first | with_reducible exact rfl | exact litN _ | exact rfl))); (case h1 => exact lz); (case h2 => exact lz); (case hn => first | with_reducible assumption | exact Nat.add_sub_cancel_left _ _ | exact Nat.sub_zero _ | exact rfl); (case hd => exact rfl)) | (apply DR.ldW tt; (case ho => with_reducible exact rfl); (case hg => first | exact rfl | exact gd_y rfl rfl rfl (by assumption)); (case hds => exact rfl); (case hx => first | exact evo_ki | exact evo_kb | exact rfl); (case hm => exact rfl); (case hT => exact rfl); (case hp => exact rfl); (case hfl => first | exact flat_map1 (fun _ => rfl) | exact rfl); (case hv => (first | exact part_map rfl rfl lz | exact part_whole rfl lz | (apply ld1 <;> first | exact rfl | exact lz) | (apply ld2 <;> first | exact rfl | exact lz) | (apply ld3 <;> first | exact rfl | exact lz) | (apply ld4 <;> first | exact rfl | exact lz) | (apply ld5 <;> first | exact rfl | exact lz) | (apply ld6 <;> first | exact rfl | exact lz) | (apply ld7 <;> first | exact rfl | exact lz) | (apply part_l; (first | exact part_map rfl rfl lz | exact part_whole rfl lz | exact rfl)) | (apply part_l; apply part_r; (case hl => first | exact (List.length_map _).trans (by assumption) | ((try apply (List.length_map _).trans); (repeat apply List.length_set.trans); assumption) | rfl); (case hk => first | exact off_s | exact off_r (by decide) | exact off_r lz); (first | exact part_map rfl rfl lz | exact part_whole rfl lz | exact rfl)) | (apply part_r; (case hl => first | exact (List.length_map _).trans (by assumption) | ((try apply (List.length_map _).trans); (repeat apply List.length_set.trans); assumption) | rfl); (case hk => first | exact off_s | exact off_r (by decide) | exact off_r lz); first | (apply part_l; (first | exact part_map rfl rfl lz | exact part_whole rfl lz | exact rfl)) | (apply part_r; (case hl => first | exact (List.length_map _).trans (by assumption) | ((try apply (List.length_map _).trans); (repeat apply List.length_set.trans); assumption) | rfl); (case hk => first | exact off_s | exact off_r (by decide) | exact off_r lz); (first | exact part_map rfl rfl lz | exact part_whole rfl lz | exact rfl)) | (first | exact part_map rfl rfl lz | exact part_whole rfl lz | exact rfl)) | exact rfl)); (case hd => exact rfl)) | (apply DR.stW tt; (case ho => with_reducible exact rfl); (case hg => first | exact rfl | exact gd_y rfl rfl rfl (by assumption)); (case hds => exact rfl); (case hx => first | exact evo_ki | exact evo_kb | exact rfl); (case hy => first | exact evo_ki | exact evo_kb | exact rfl); (case hm => exact rfl); (case hT => exact rfl); (case hb => exact rfl); (case hu => exact rfl); (case hs => exact rfl); (case hts => exact rfl); (case hoff => first | exact (Nat.mul_one _).symm | exact rfl); (case hk => exact lz); (case hz => first | exact set_map | exact rfl)) | (apply DR.mkW (zv := bK 0) tt; (case ho => with_reducible exact rfl); (case hg => first | exact rfl | exact gd_y rfl rfl rfl (by assumption)); (case hds => exact rfl); (case hx => first | exact evo_ki | exact evo_kb | exact rfl); (case hy => first | exact evo_ki | exact evo_kb | exact rfl); (case hm => exact rfl); (case hz => first | with_reducible exact rfl | exact litN _ | exact rfl | exact natZ lz); (case hT => exact rfl); (case hdt => exact rfl); (case hX => exact rfl); (case hdx => exact rfl); (case hE => exact rfl); (case hsz => exact rfl); (case hn => first | exact List.length_map _ | exact lz); (case hk => exact lz); (case hmax => exact lz); (case hb => exact lz); (case hzv => exact rfl); (case hn2 => first | with_reducible assumption | exact rfl); (case he => first | exact app_rep | exact rfl); (case hd => exact rfl)) | (apply DR.cpS tt; (case ho => with_reducible exact rfl); (case hg => first | exact rfl | exact gd_y rfl rfl rfl (by assumption)); (case hds => exact rfl); (case hx => first | exact evo_ki | exact evo_kb | exact rfl); (case hy => first | exact evo_ki | exact evo_kb | exact rfl); (case hm => exact rfl); (case hT => exact rfl); (case hdt => exact rfl); (case hE => exact rfl); (case hsz => exact rfl); (case hX => exact rfl); (case hdx => exact rfl); (case hys => exact sz'); (case hl => first | exact (List.length_map _).trans (by assumption) | exact List.length_map _ | exact rfl); (case hmn => exact lz); (case hle => exact lz); (case hz => first | exact splice_put | exact rfl); (case hd => exact rfl)) | (apply DR.cpN tt; (case ho => with_reducible exact rfl); (case hg => first | exact rfl | exact gd_y rfl rfl rfl (by assumption)); (case hds => exact rfl); (case hx => first | exact evo_ki | exact evo_kb | exact rfl); (case hy => first | exact evo_ki | exact evo_kb | exact rfl); (case hm => exact rfl); (case hT => exact rfl); (case hdt => exact rfl); (case hE => exact rfl); (case hsz => exact rfl); (case hX => exact rfl); (case hdx => exact rfl); (case hle => exact lz); (case hd => exact rfl)) | (apply DR.cpB tt; (case ho => with_reducible exact rfl); (case hg => first | exact rfl | exact gd_y rfl rfl rfl (by assumption)); (case hds => exact rfl); (case hx => first | exact evo_ki | exact evo_kb | exact rfl); (case hy => first | exact evo_ki | exact evo_kb | exact rfl); (case hm => exact rfl); (case hb2 => exact rfl); (case hT => exact rfl); (case hdt => exact rfl); (case hE => exact rfl); (case hsz => exact rfl); (case hs1 => exact rfl); (case hX => exact rfl); (case hdx => exact rfl); (case hcs => first | exact sub_map | (apply sub_l; (case hs => exact sub_map); exact lz) | (apply sub_r; (case hl => first | exact (List.length_map _).trans (by assumption) | ((try apply (List.length_map _).trans); (repeat apply List.length_set.trans); assumption) | rfl); (case hk => first | exact off_s | exact off_r (by decide) | exact off_r lz); first | (apply sub_l; (case hs => exact sub_map); exact lz) | exact sub_map)); (case hf => exact fun _ => rfl); (case hr => exact fun _ => rfl); (case hlm => exact lz); (case hbl => exact lz); (case hmn => exact lz); (case hle => exact lz); (case hz => first | exact splice_put | exact rfl); (case hd => exact rfl)) | (apply DR.cpW tt; (case ho => with_reducible exact rfl); (case hg => first | exact rfl | exact gd_y rfl rfl rfl (by assumption)); (case hds => exact rfl); (case hx => first | exact evo_ki | exact evo_kb | exact rfl); (case hy => first | exact evo_ki | exact evo_kb | exact rfl); (case hm => exact rfl); (case hb2 => exact rfl); (case hT => exact rfl); (case hdt => exact rfl); (case hE => exact rfl); (case hsz => exact rfl); (case hX => exact rfl); (case hdx => exact rfl); (case hcs => first | exact cut_mapW | exact rfl); (case hys => exact sz'); (case hbl => exact lz); (case hmn => exact lz); (case hle => exact lz); (case hz => first | exact splice_put | exact rfl); (case hd => exact rfl)) | (apply DR.crk; (case ho => with_reducible exact rfl); (case hg => first | exact rfl | exact gd_y rfl rfl rfl (by assumption)); (case hds => exact rfl); (case hx => exact rfl); (first | ((case' hc => exact c1); (case hu => first | exact .same _ | exact ft1 rfl | exact ft2 rfl | (apply ft1; simp only [V.cv, V.cv.go, V.cells, cv_mapb, cv_mapq, cv_mapu] <;> rfl))) | ((case' hc => exact c2); (case hu => first | exact .same _ | exact ft1 rfl | exact ft2 rfl | (apply ft1; simp only [V.cv, V.cv.go, V.cells, cv_mapb, cv_mapq, cv_mapu] <;> rfl))) | ((case' hc => exact c3); (case hu => first | exact .same _ | exact ft1 rfl | exact ft2 rfl | (apply ft1; simp only [V.cv, V.cv.go, V.cells, cv_mapb, cv_mapq, cv_mapu] <;> rfl))) | ((case' hc => exact c4); (case hu => first | exact .same _ | exact ft1 rfl | exact ft2 rfl | (apply ft1; simp only [V.cv, V.cv.go, V.cells, cv_mapb, cv_mapq, cv_mapu] <;> rfl))) | ((case' hc => exact c5); (case hu => first | exact .same _ | exact ft1 rfl | exact ft2 rfl | (apply ft1; simp only [V.cv, V.cv.go, V.cells, cv_mapb, cv_mapq, cv_mapu] <;> rfl))) | ((case' hc => exact c6); (case hu => first | exact .same _ | exact ft1 rfl | exact ft2 rfl | (apply ft1; simp only [V.cv, V.cv.go, V.cells, cv_mapb, cv_mapq, cv_mapu] <;> rfl))) | ((case' hc => exact c7); (case hu => first | exact .same _ | exact ft1 rfl | exact ft2 rfl | (apply ft1; simp only [V.cv, V.cv.go, V.cells, cv_mapb, cv_mapq, cv_mapu] <;> rfl))) | ((case' hc => exact c8); (case hu => first | exact .same _ | exact ft1 rfl | exact ft2 rfl | (apply ft1; simp only [V.cv, V.cv.go, V.cells, cv_mapb, cv_mapq, cv_mapu] <;> rfl))) | ((case' hc => exact c9); (case hu => first | exact .same _ | exact ft1 rfl | exact ft2 rfl | (apply ft1; simp only [V.cv, V.cv.go, V.cells, cv_mapb, cv_mapq, cv_mapu] <;> rfl))) | ((case' hc => exact c10); (case hu => first | exact .same _ | exact ft1 rfl | exact ft2 rfl | (apply ft1; simp only [V.cv, V.cv.go, V.cells, cv_mapb, cv_mapq, cv_mapu] <;> rfl))) | ((case' hc => exact c11); (case hu => first | exact .same _ | exact ft1 rfl | exact ft2 rfl | (apply ft1; simp only [V.cv, V.cv.go, V.cells, cv_mapb, cv_mapq, cv_mapu] <;> rfl))) | ((case' hc => exact c12); (case hu => first | exact .same _ | exact ft1 rfl | exact ft2 rfl | (apply ft1; simp only [V.cv, V.cv.go, V.cells, cv_mapb, cv_mapq, cv_mapu] <;> rfl))) | ((case' hc => exact c13); (case hu => first | exact .same _ | exact ft1 rfl | exact ft2 rfl | (apply ft1; simp only [V.cv, V.cv.go, V.cells, cv_mapb, cv_mapq, cv_mapu] <;> rfl))) | ((case' hc => exact c14); (case hu => first | exact .same _ | exact ft1 rfl | exact ft2 rfl | (apply ft1; simp only [V.cv, V.cv.go, V.cells, cv_mapb, cv_mapq, cv_mapu] <;> rfl))) | ((case' hc => exact c15); (case hu => first | exact .same _ | exact ft1 rfl | exact ft2 rfl | (apply ft1; simp only [V.cv, V.cv.go, V.cells, cv_mapb, cv_mapq, cv_mapu] <;> rfl))) | ((case' hc => exact c16); (case hu => first | exact .same _ | exact ft1 rfl | exact ft2 rfl | (apply ft1; simp only [V.cv, V.cv.go, V.cells, cv_mapb, cv_mapq, cv_mapu] <;> rfl)))); (case hr => first | exact rfl | (simp only [V.cells, refsE, refsM, V.refs, V.refs.go, V.pure, V.pure.go, pure_mapq, pure_mapb, pure_mapu, refs_mapq, refs_mapb, refs_mapu, refs_append, Bool.and_true, Bool.true_and, Bool.and_self] <;> exact rfl) | (simp only [V.cells, refsE, refsM, V.refs, V.refs.go, V.pure, V.pure.go, pure_mapq, pure_mapb, pure_mapu, refs_mapq, refs_mapb, refs_mapu, refs_append, Bool.and_true, Bool.true_and, Bool.and_self, hrf] <;> exact rfl) | (simp only [V.cells, refsE, refsM, V.refs, V.refs.go, V.pure, V.pure.go, pure_mapq, pure_mapb, pure_mapu, refs_mapq, refs_mapb, refs_mapu, refs_append, Bool.and_true, Bool.true_and, Bool.and_self, hrf, hrg] <;> exact rfl) | exact lz); (case ht => exact rfl); (case hd => exact rfl)) | (apply DR.cvw; (case ho => with_reducible exact rfl); (case hg => first | exact rfl | exact gd_y rfl rfl rfl (by assumption)); (case hds => exact rfl); (case hx => exact rfl); (case hm => exact rfl); (case h0 => exact lz); (case hl => exact lz); (case' hcs => exact cut_mapW); (case' hc => (first | apply c1 | apply c2 | apply c3 | apply c4 | apply c5 | apply c6 | apply c7 | apply c8 | apply c9 | apply c10 | apply c11 | apply c12 | apply c13 | apply c14 | apply c15 | apply c16)); (case hp => first | exact rfl | (simp only [V.cells, refsE, refsM, V.refs, V.refs.go, V.pure, V.pure.go, pure_mapq, pure_mapb, pure_mapu, refs_mapq, refs_mapb, refs_mapu, refs_append, Bool.and_true, Bool.true_and, Bool.and_self] <;> exact rfl) | (simp only [V.cells, refsE, refsM, V.refs, V.refs.go, V.pure, V.pure.go, pure_mapq, pure_mapb, pure_mapu, refs_mapq, refs_mapb, refs_mapu, refs_append, Bool.and_true, Bool.true_and, Bool.and_self, hrf] <;> exact rfl) | (simp only [V.cells, refsE, refsM, V.refs, V.refs.go, V.pure, V.pure.go, pure_mapq, pure_mapb, pure_mapu, refs_mapq, refs_mapb, refs_mapu, refs_append, Bool.and_true, Bool.true_and, Bool.and_self, hrf, hrg] <;> exact rfl) | exact lz); (case hd => exact rfl)) | (apply DR.mk tt; (case ho => with_reducible exact rfl); (case hg => first | exact rfl | exact gd_y rfl rfl rfl (by assumption)); (case hds => exact rfl); (case hx => first | exact evo_ki | exact evo_kb | exact rfl); (case hm => exact rfl); (case hn => exact lz); (case hT => exact rfl); (case hdt => exact rfl); (case hE => exact rfl); (case hdE => exact rfl); (case hne => exact rfl); (case hs => first | exact all_sizes rfl | exact sz'); (case hd => exact rfl)) | (apply DR.sb; (case ho => with_reducible exact rfl); (case hg => exact rfl); (case hds => exact rfl); (case hx => exact rfl); (case hm => exact rfl); (case' hcs => first | exact sub_map | (apply sub_l; (case hs => exact sub_map); exact lz) | (apply sub_r; (case hl => first | exact (List.length_map _).trans (by assumption) | ((try apply (List.length_map _).trans); (repeat apply List.length_set.trans); assumption) | rfl); (case hk => first | exact off_s | exact off_r (by decide) | exact off_r lz); first | (apply sub_l; (case hs => exact sub_map); exact lz) | exact sub_map)); (case hf => exact fun _ => rfl); (case' hc => (first | apply c1 | apply c2 | apply c3 | apply c4 | apply c5 | apply c6 | apply c7 | apply c8 | apply c9 | apply c10 | apply c11 | apply c12 | apply c13 | apply c14 | apply c15 | apply c16)); (case hl => exact lz); (case hr => first | exact rfl | (simp only [V.cells, refsE, refsM, V.refs, V.refs.go, V.pure, V.pure.go, pure_mapq, pure_mapb, pure_mapu, refs_mapq, refs_mapb, refs_mapu, refs_append, Bool.and_true, Bool.true_and, Bool.and_self] <;> exact rfl) | (simp only [V.cells, refsE, refsM, V.refs, V.refs.go, V.pure, V.pure.go, pure_mapq, pure_mapb, pure_mapu, refs_mapq, refs_mapb, refs_mapu, refs_append, Bool.and_true, Bool.true_and, Bool.and_self, hrf] <;> exact rfl) | (simp only [V.cells, refsE, refsM, V.refs, V.refs.go, V.pure, V.pure.go, pure_mapq, pure_mapb, pure_mapu, refs_mapq, refs_mapb, refs_mapu, refs_append, Bool.and_true, Bool.true_and, Bool.and_self, hrf, hrg] <;> exact rfl) | exact lz); (case hn => exact lz); (case hmx => exact lz); (case hp => first | exact rfl | (simp only [V.cells, refsE, refsM, V.refs, V.refs.go, V.pure, V.pure.go, pure_mapq, pure_mapb, pure_mapu, refs_mapq, refs_mapb, refs_mapu, refs_append, Bool.and_true, Bool.true_and, Bool.and_self] <;> exact rfl) | (simp only [V.cells, refsE, refsM, V.refs, V.refs.go, V.pure, V.pure.go, pure_mapq, pure_mapb, pure_mapu, refs_mapq, refs_mapb, refs_mapu, refs_append, Bool.and_true, Bool.true_and, Bool.and_self, hrf] <;> exact rfl) | (simp only [V.cells, refsE, refsM, V.refs, V.refs.go, V.pure, V.pure.go, pure_mapq, pure_mapb, pure_mapu, refs_mapq, refs_mapb, refs_mapu, refs_append, Bool.and_true, Bool.true_and, Bool.and_self, hrf, hrg] <;> exact rfl) | exact lz); (case hd => exact rfl)) | (apply DR.cm; (case hg => first | exact rfl | exact gd_y rfl rfl rfl (by assumption)); (case hds => exact rfl); (case' h => (first | (apply Does.callM; (case ho => with_reducible exact rfl); (case hx => exact rfl); (first | ((case' hc => apply c1); (case hu => first | exact .same _ | exact ft1 rfl | exact ft2 rfl | (apply ft1; simp only [V.cv, V.cv.go, V.cells, cv_mapb, cv_mapq, cv_mapu] <;> rfl))) | ((case' hc => apply c2); (case hu => first | exact .same _ | exact ft1 rfl | exact ft2 rfl | (apply ft1; simp only [V.cv, V.cv.go, V.cells, cv_mapb, cv_mapq, cv_mapu] <;> rfl))) | ((case' hc => apply c3); (case hu => first | exact .same _ | exact ft1 rfl | exact ft2 rfl | (apply ft1; simp only [V.cv, V.cv.go, V.cells, cv_mapb, cv_mapq, cv_mapu] <;> rfl))) | ((case' hc => apply c4); (case hu => first | exact .same _ | exact ft1 rfl | exact ft2 rfl | (apply ft1; simp only [V.cv, V.cv.go, V.cells, cv_mapb, cv_mapq, cv_mapu] <;> rfl))) | ((case' hc => apply c5); (case hu => first | exact .same _ | exact ft1 rfl | exact ft2 rfl | (apply ft1; simp only [V.cv, V.cv.go, V.cells, cv_mapb, cv_mapq, cv_mapu] <;> rfl))) | ((case' hc => apply c6); (case hu => first | exact .same _ | exact ft1 rfl | exact ft2 rfl | (apply ft1; simp only [V.cv, V.cv.go, V.cells, cv_mapb, cv_mapq, cv_mapu] <;> rfl))) | ((case' hc => apply c7); (case hu => first | exact .same _ | exact ft1 rfl | exact ft2 rfl | (apply ft1; simp only [V.cv, V.cv.go, V.cells, cv_mapb, cv_mapq, cv_mapu] <;> rfl))) | ((case' hc => apply c8); (case hu => first | exact .same _ | exact ft1 rfl | exact ft2 rfl | (apply ft1; simp only [V.cv, V.cv.go, V.cells, cv_mapb, cv_mapq, cv_mapu] <;> rfl))) | ((case' hc => apply c9); (case hu => first | exact .same _ | exact ft1 rfl | exact ft2 rfl | (apply ft1; simp only [V.cv, V.cv.go, V.cells, cv_mapb, cv_mapq, cv_mapu] <;> rfl))) | ((case' hc => apply c10); (case hu => first | exact .same _ | exact ft1 rfl | exact ft2 rfl | (apply ft1; simp only [V.cv, V.cv.go, V.cells, cv_mapb, cv_mapq, cv_mapu] <;> rfl))) | ((case' hc => apply c11); (case hu => first | exact .same _ | exact ft1 rfl | exact ft2 rfl | (apply ft1; simp only [V.cv, V.cv.go, V.cells, cv_mapb, cv_mapq, cv_mapu] <;> rfl))) | ((case' hc => apply c12); (case hu => first | exact .same _ | exact ft1 rfl | exact ft2 rfl | (apply ft1; simp only [V.cv, V.cv.go, V.cells, cv_mapb, cv_mapq, cv_mapu] <;> rfl))) | ((case' hc => apply c13); (case hu => first | exact .same _ | exact ft1 rfl | exact ft2 rfl | (apply ft1; simp only [V.cv, V.cv.go, V.cells, cv_mapb, cv_mapq, cv_mapu] <;> rfl))) | ((case' hc => apply c14); (case hu => first | exact .same _ | exact ft1 rfl | exact ft2 rfl | (apply ft1; simp only [V.cv, V.cv.go, V.cells, cv_mapb, cv_mapq, cv_mapu] <;> rfl))) | ((case' hc => apply c15); (case hu => first | exact .same _ | exact ft1 rfl | exact ft2 rfl | (apply ft1; simp only [V.cv, V.cv.go, V.cells, cv_mapb, cv_mapq, cv_mapu] <;> rfl))) | ((case' hc => apply c16); (case hu => first | exact .same _ | exact ft1 rfl | exact ft2 rfl | (apply ft1; simp only [V.cv, V.cv.go, V.cells, cv_mapb, cv_mapq, cv_mapu] <;> rfl)))); (case hr => first | exact rfl | (simp only [V.cells, refsE, refsM, V.refs, V.refs.go, V.pure, V.pure.go, pure_mapq, pure_mapb, pure_mapu, refs_mapq, refs_mapb, refs_mapu, refs_append, Bool.and_true, Bool.true_and, Bool.and_self] <;> exact rfl) | (simp only [V.cells, refsE, refsM, V.refs, V.refs.go, V.pure, V.pure.go, pure_mapq, pure_mapb, pure_mapu, refs_mapq, refs_mapb, refs_mapu, refs_append, Bool.and_true, Bool.true_and, Bool.and_self, hrf] <;> exact rfl) | (simp only [V.cells, refsE, refsM, V.refs, V.refs.go, V.pure, V.pure.go, pure_mapq, pure_mapb, pure_mapu, refs_mapq, refs_mapb, refs_mapu, refs_append, Bool.and_true, Bool.true_and, Bool.and_self, hrf, hrg] <;> exact rfl) | exact lz)) | (apply Does.callFM; (case ho => with_reducible exact rfl); (case hf => exact rfl); (case hx => exact rfl); (first | ((case' hc => apply c1); (case hu => first | exact .same _ | exact ft1 rfl | exact ft2 rfl | (apply ft1; simp only [V.cv, V.cv.go, V.cells, cv_mapb, cv_mapq, cv_mapu] <;> rfl))) | ((case' hc => apply c2); (case hu => first | exact .same _ | exact ft1 rfl | exact ft2 rfl | (apply ft1; simp only [V.cv, V.cv.go, V.cells, cv_mapb, cv_mapq, cv_mapu] <;> rfl))) | ((case' hc => apply c3); (case hu => first | exact .same _ | exact ft1 rfl | exact ft2 rfl | (apply ft1; simp only [V.cv, V.cv.go, V.cells, cv_mapb, cv_mapq, cv_mapu] <;> rfl))) | ((case' hc => apply c4); (case hu => first | exact .same _ | exact ft1 rfl | exact ft2 rfl | (apply ft1; simp only [V.cv, V.cv.go, V.cells, cv_mapb, cv_mapq, cv_mapu] <;> rfl))) | ((case' hc => apply c5); (case hu => first | exact .same _ | exact ft1 rfl | exact ft2 rfl | (apply ft1; simp only [V.cv, V.cv.go, V.cells, cv_mapb, cv_mapq, cv_mapu] <;> rfl))) | ((case' hc => apply c6); (case hu => first | exact .same _ | exact ft1 rfl | exact ft2 rfl | (apply ft1; simp only [V.cv, V.cv.go, V.cells, cv_mapb, cv_mapq, cv_mapu] <;> rfl))) | ((case' hc => apply c7); (case hu => first | exact .same _ | exact ft1 rfl | exact ft2 rfl | (apply ft1; simp only [V.cv, V.cv.go, V.cells, cv_mapb, cv_mapq, cv_mapu] <;> rfl))) | ((case' hc => apply c8); (case hu => first | exact .same _ | exact ft1 rfl | exact ft2 rfl | (apply ft1; simp only [V.cv, V.cv.go, V.cells, cv_mapb, cv_mapq, cv_mapu] <;> rfl))) | ((case' hc => apply c9); (case hu => first | exact .same _ | exact ft1 rfl | exact ft2 rfl | (apply ft1; simp only [V.cv, V.cv.go, V.cells, cv_mapb, cv_mapq, cv_mapu] <;> rfl))) | ((case' hc => apply c10); (case hu => first | exact .same _ | exact ft1 rfl | exact ft2 rfl | (apply ft1; simp only [V.cv, V.cv.go, V.cells, cv_mapb, cv_mapq, cv_mapu] <;> rfl))) | ((case' hc => apply c11); (case hu => first | exact .same _ | exact ft1 rfl | exact ft2 rfl | (apply ft1; simp only [V.cv, V.cv.go, V.cells, cv_mapb, cv_mapq, cv_mapu] <;> rfl))) | ((case' hc => apply c12); (case hu => first | exact .same _ | exact ft1 rfl | exact ft2 rfl | (apply ft1; simp only [V.cv, V.cv.go, V.cells, cv_mapb, cv_mapq, cv_mapu] <;> rfl))) | ((case' hc => apply c13); (case hu => first | exact .same _ | exact ft1 rfl | exact ft2 rfl | (apply ft1; simp only [V.cv, V.cv.go, V.cells, cv_mapb, cv_mapq, cv_mapu] <;> rfl))) | ((case' hc => apply c14); (case hu => first | exact .same _ | exact ft1 rfl | exact ft2 rfl | (apply ft1; simp only [V.cv, V.cv.go, V.cells, cv_mapb, cv_mapq, cv_mapu] <;> rfl))) | ((case' hc => apply c15); (case hu => first | exact .same _ | exact ft1 rfl | exact ft2 rfl | (apply ft1; simp only [V.cv, V.cv.go, V.cells, cv_mapb, cv_mapq, cv_mapu] <;> rfl))) | ((case' hc => apply c16); (case hu => first | exact .same _ | exact ft1 rfl | exact ft2 rfl | (apply ft1; simp only [V.cv, V.cv.go, V.cells, cv_mapb, cv_mapq, cv_mapu] <;> rfl)))); (case hr => first | exact rfl | (simp only [V.cells, refsE, refsM, V.refs, V.refs.go, V.pure, V.pure.go, pure_mapq, pure_mapb, pure_mapu, refs_mapq, refs_mapb, refs_mapu, refs_append, Bool.and_true, Bool.true_and, Bool.and_self] <;> exact rfl) | (simp only [V.cells, refsE, refsM, V.refs, V.refs.go, V.pure, V.pure.go, pure_mapq, pure_mapb, pure_mapu, refs_mapq, refs_mapb, refs_mapu, refs_append, Bool.and_true, Bool.true_and, Bool.and_self, hrf] <;> exact rfl) | (simp only [V.cells, refsE, refsM, V.refs, V.refs.go, V.pure, V.pure.go, pure_mapq, pure_mapb, pure_mapu, refs_mapq, refs_mapb, refs_mapu, refs_append, Bool.and_true, Bool.true_and, Bool.and_self, hrf, hrg] <;> exact rfl) | exact lz)))); (case ht => first | exact True.intro | exact And.intro rfl True.intro | exact And.intro rfl (And.intro rfl True.intro) | exact And.intro rfl (And.intro rfl (And.intro rfl True.intro)) | exact And.intro rfl (And.intro rfl (And.intro rfl (And.intro rfl True.intro)))); (case hd => exact rfl)) | (apply DR.cz; (case hg => first | exact rfl | exact gd_y rfl rfl rfl (by assumption)); (case hds => exact rfl); (case' h => (first | (apply Does.callM; (case ho => with_reducible exact rfl); (case hx => exact rfl); (first | ((case' hc => apply c1); (case hu => first | exact .same _ | exact ft1 rfl | exact ft2 rfl | (apply ft1; simp only [V.cv, V.cv.go, V.cells, cv_mapb, cv_mapq, cv_mapu] <;> rfl))) | ((case' hc => apply c2); (case hu => first | exact .same _ | exact ft1 rfl | exact ft2 rfl | (apply ft1; simp only [V.cv, V.cv.go, V.cells, cv_mapb, cv_mapq, cv_mapu] <;> rfl))) | ((case' hc => apply c3); (case hu => first | exact .same _ | exact ft1 rfl | exact ft2 rfl | (apply ft1; simp only [V.cv, V.cv.go, V.cells, cv_mapb, cv_mapq, cv_mapu] <;> rfl))) | ((case' hc => apply c4); (case hu => first | exact .same _ | exact ft1 rfl | exact ft2 rfl | (apply ft1; simp only [V.cv, V.cv.go, V.cells, cv_mapb, cv_mapq, cv_mapu] <;> rfl))) | ((case' hc => apply c5); (case hu => first | exact .same _ | exact ft1 rfl | exact ft2 rfl | (apply ft1; simp only [V.cv, V.cv.go, V.cells, cv_mapb, cv_mapq, cv_mapu] <;> rfl))) | ((case' hc => apply c6); (case hu => first | exact .same _ | exact ft1 rfl | exact ft2 rfl | (apply ft1; simp only [V.cv, V.cv.go, V.cells, cv_mapb, cv_mapq, cv_mapu] <;> rfl))) | ((case' hc => apply c7); (case hu => first | exact .same _ | exact ft1 rfl | exact ft2 rfl | (apply ft1; simp only [V.cv, V.cv.go, V.cells, cv_mapb, cv_mapq, cv_mapu] <;> rfl))) | ((case' hc => apply c8); (case hu => first | exact .same _ | exact ft1 rfl | exact ft2 rfl | (apply ft1; simp only [V.cv, V.cv.go, V.cells, cv_mapb, cv_mapq, cv_mapu] <;> rfl))) | ((case' hc => apply c9); (case hu => first | exact .same _ | exact ft1 rfl | exact ft2 rfl | (apply ft1; simp only [V.cv, V.cv.go, V.cells, cv_mapb, cv_mapq, cv_mapu] <;> rfl))) | ((case' hc => apply c10); (case hu => first | exact .same _ | exact ft1 rfl | exact ft2 rfl | (apply ft1; simp only [V.cv, V.cv.go, V.cells, cv_mapb, cv_mapq, cv_mapu] <;> rfl))) | ((case' hc => apply c11); (case hu => first | exact .same _ | exact ft1 rfl | exact ft2 rfl | (apply ft1; simp only [V.cv, V.cv.go, V.cells, cv_mapb, cv_mapq, cv_mapu] <;> rfl))) | ((case' hc => apply c12); (case hu => first | exact .same _ | exact ft1 rfl | exact ft2 rfl | (apply ft1; simp only [V.cv, V.cv.go, V.cells, cv_mapb, cv_mapq, cv_mapu] <;> rfl))) | ((case' hc => apply c13); (case hu => first | exact .same _ | exact ft1 rfl | exact ft2 rfl | (apply ft1; simp only [V.cv, V.cv.go, V.cells, cv_mapb, cv_mapq, cv_mapu] <;> rfl))) | ((case' hc => apply c14); (case hu => first | exact .same _ | exact ft1 rfl | exact ft2 rfl | (apply ft1; simp only [V.cv, V.cv.go, V.cells, cv_mapb, cv_mapq, cv_mapu] <;> rfl))) | ((case' hc => apply c15); (case hu => first | exact .same _ | exact ft1 rfl | exact ft2 rfl | (apply ft1; simp only [V.cv, V.cv.go, V.cells, cv_mapb, cv_mapq, cv_mapu] <;> rfl))) | ((case' hc => apply c16); (case hu => first | exact .same _ | exact ft1 rfl | exact ft2 rfl | (apply ft1; simp only [V.cv, V.cv.go, V.cells, cv_mapb, cv_mapq, cv_mapu] <;> rfl)))); (case hr => first | exact rfl | (simp only [V.cells, refsE, refsM, V.refs, V.refs.go, V.pure, V.pure.go, pure_mapq, pure_mapb, pure_mapu, refs_mapq, refs_mapb, refs_mapu, refs_append, Bool.and_true, Bool.true_and, Bool.and_self] <;> exact rfl) | (simp only [V.cells, refsE, refsM, V.refs, V.refs.go, V.pure, V.pure.go, pure_mapq, pure_mapb, pure_mapu, refs_mapq, refs_mapb, refs_mapu, refs_append, Bool.and_true, Bool.true_and, Bool.and_self, hrf] <;> exact rfl) | (simp only [V.cells, refsE, refsM, V.refs, V.refs.go, V.pure, V.pure.go, pure_mapq, pure_mapb, pure_mapu, refs_mapq, refs_mapb, refs_mapu, refs_append, Bool.and_true, Bool.true_and, Bool.and_self, hrf, hrg] <;> exact rfl) | exact lz)) | (apply Does.callFM; (case ho => with_reducible exact rfl); (case hf => exact rfl); (case hx => exact rfl); (first | ((case' hc => apply c1); (case hu => first | exact .same _ | exact ft1 rfl | exact ft2 rfl | (apply ft1; simp only [V.cv, V.cv.go, V.cells, cv_mapb, cv_mapq, cv_mapu] <;> rfl))) | ((case' hc => apply c2); (case hu => first | exact .same _ | exact ft1 rfl | exact ft2 rfl | (apply ft1; simp only [V.cv, V.cv.go, V.cells, cv_mapb, cv_mapq, cv_mapu] <;> rfl))) | ((case' hc => apply c3); (case hu => first | exact .same _ | exact ft1 rfl | exact ft2 rfl | (apply ft1; simp only [V.cv, V.cv.go, V.cells, cv_mapb, cv_mapq, cv_mapu] <;> rfl))) | ((case' hc => apply c4); (case hu => first | exact .same _ | exact ft1 rfl | exact ft2 rfl | (apply ft1; simp only [V.cv, V.cv.go, V.cells, cv_mapb, cv_mapq, cv_mapu] <;> rfl))) | ((case' hc => apply c5); (case hu => first | exact .same _ | exact ft1 rfl | exact ft2 rfl | (apply ft1; simp only [V.cv, V.cv.go, V.cells, cv_mapb, cv_mapq, cv_mapu] <;> rfl))) | ((case' hc => apply c6); (case hu => first | exact .same _ | exact ft1 rfl | exact ft2 rfl | (apply ft1; simp only [V.cv, V.cv.go, V.cells, cv_mapb, cv_mapq, cv_mapu] <;> rfl))) | ((case' hc => apply c7); (case hu => first | exact .same _ | exact ft1 rfl | exact ft2 rfl | (apply ft1; simp only [V.cv, V.cv.go, V.cells, cv_mapb, cv_mapq, cv_mapu] <;> rfl))) | ((case' hc => apply c8); (case hu => first | exact .same _ | exact ft1 rfl | exact ft2 rfl | (apply ft1; simp only [V.cv, V.cv.go, V.cells, cv_mapb, cv_mapq, cv_mapu] <;> rfl))) | ((case' hc => apply c9); (case hu => first | exact .same _ | exact ft1 rfl | exact ft2 rfl | (apply ft1; simp only [V.cv, V.cv.go, V.cells, cv_mapb, cv_mapq, cv_mapu] <;> rfl))) | ((case' hc => apply c10); (case hu => first | exact .same _ | exact ft1 rfl | exact ft2 rfl | (apply ft1; simp only [V.cv, V.cv.go, V.cells, cv_mapb, cv_mapq, cv_mapu] <;> rfl))) | ((case' hc => apply c11); (case hu => first | exact .same _ | exact ft1 rfl | exact ft2 rfl | (apply ft1; simp only [V.cv, V.cv.go, V.cells, cv_mapb, cv_mapq, cv_mapu] <;> rfl))) | ((case' hc => apply c12); (case hu => first | exact .same _ | exact ft1 rfl | exact ft2 rfl | (apply ft1; simp only [V.cv, V.cv.go, V.cells, cv_mapb, cv_mapq, cv_mapu] <;> rfl))) | ((case' hc => apply c13); (case hu => first | exact .same _ | exact ft1 rfl | exact ft2 rfl | (apply ft1; simp only [V.cv, V.cv.go, V.cells, cv_mapb, cv_mapq, cv_mapu] <;> rfl))) | ((case' hc => apply c14); (case hu => first | exact .same _ | exact ft1 rfl | exact ft2 rfl | (apply ft1; simp only [V.cv, V.cv.go, V.cells, cv_mapb, cv_mapq, cv_mapu] <;> rfl))) | ((case' hc => apply c15); (case hu => first | exact .same _ | exact ft1 rfl | exact ft2 rfl | (apply ft1; simp only [V.cv, V.cv.go, V.cells, cv_mapb, cv_mapq, cv_mapu] <;> rfl))) | ((case' hc => apply c16); (case hu => first | exact .same _ | exact ft1 rfl | exact ft2 rfl | (apply ft1; simp only [V.cv, V.cv.go, V.cells, cv_mapb, cv_mapq, cv_mapu] <;> rfl)))); (case hr => first | exact rfl | (simp only [V.cells, refsE, refsM, V.refs, V.refs.go, V.pure, V.pure.go, pure_mapq, pure_mapb, pure_mapu, refs_mapq, refs_mapb, refs_mapu, refs_append, Bool.and_true, Bool.true_and, Bool.and_self] <;> exact rfl) | (simp only [V.cells, refsE, refsM, V.refs, V.refs.go, V.pure, V.pure.go, pure_mapq, pure_mapb, pure_mapu, refs_mapq, refs_mapb, refs_mapu, refs_append, Bool.and_true, Bool.true_and, Bool.and_self, hrf] <;> exact rfl) | (simp only [V.cells, refsE, refsM, V.refs, V.refs.go, V.pure, V.pure.go, pure_mapq, pure_mapb, pure_mapu, refs_mapq, refs_mapb, refs_mapu, refs_append, Bool.and_true, Bool.true_and, Bool.and_self, hrf, hrg] <;> exact rfl) | exact lz)))); (case ht => first | exact True.intro | exact And.intro rfl True.intro | exact And.intro rfl (And.intro rfl True.intro) | exact And.intro rfl (And.intro rfl (And.intro rfl True.intro)) | exact And.intro rfl (And.intro rfl (And.intro rfl (And.intro rfl True.intro))))) | (apply DR.gD; (case hg => first | exact rfl | exact gd_y rfl rfl rfl (by assumption)); (case hds => exact rfl); (case hu => exact rfl); (case h => (first | (apply Does.lss; (case ho => with_reducible exact rfl); (case hx => exact rfl); (case hy => exact rfl); (case hr => exact rfl)) | (apply Does.eql; (case ho => with_reducible exact rfl); (case hx => exact rfl); (case hy => exact rfl); (case hr => exact rfl)) | (apply Does.neq; (case ho => with_reducible exact rfl); (case hx => exact rfl); (case hy => exact rfl); (case hr => exact rfl)) | (apply Does.leq; (case ho => with_reducible exact rfl); (case hx => exact rfl); (case hy => exact rfl); (case hr => exact rfl)) | (apply Does.gtr; (case ho => with_reducible exact rfl); (case hx => exact rfl); (case hy => exact rfl); (case hr => exact rfl)) | (apply Does.geq; (case ho => with_reducible exact rfl); (case hx => exact rfl); (case hy => exact rfl); (case hr => exact rfl)) | (apply Does.eqInts bK_inj tt; (case ho => with_reducible exact rfl); (case hx => first | exact evo_ki | exact evo_kb | exact rfl); (case hy => first | exact evo_ki | exact evo_kb | exact rfl); (case hT => exact rfl); (case hd => exact rfl); (case hE => exact rfl); (case he => exact rfl); (case hs => exact rfl); (case hl => exact lz); (case hm => exact lz); (case hr' => exact rfl)) | (apply Does.eqInts qK_inj tt; (case ho => with_reducible exact rfl); (case hx => first | exact evo_ki | exact evo_kb | exact rfl); (case hy => first | exact evo_ki | exact evo_kb | exact rfl); (case hT => exact rfl); (case hd => exact rfl); (case hE => exact rfl); (case he => exact rfl); (case hs => exact rfl); (case hl => exact lz); (case hm => exact lz); (case hr' => exact rfl)) | (apply Does.eqInts uK_inj tt; (case ho => with_reducible exact rfl); (case hx => first | exact evo_ki | exact evo_kb | exact rfl); (case hy => first | exact evo_ki | exact evo_kb | exact rfl); (case hT => exact rfl); (case hd => exact rfl); (case hE => exact rfl); (case he => exact rfl); (case hs => exact rfl); (case hl => exact lz); (case hm => exact lz); (case hr' => exact rfl)) | (apply Does.eqInts (m := List.replicate 4 0) uK_inj tt; (case ho => with_reducible exact rfl); (case hx => first | exact evo_ki | exact evo_kb | exact rfl); (case hy => first | exact evo_ki | exact evo_kb | exact rfl); (case hT => exact rfl); (case hd => exact rfl); (case hE => exact rfl); (case he => exact rfl); (case hs => exact rfl); (case hl => exact lz); (case hm => exact lz); (case hr' => exact rfl)) | (apply Does.eqInts (m := List.replicate 32 0) bK_inj tt; (case ho => with_reducible exact rfl); (case hx => first | exact evo_ki | exact evo_kb | exact rfl); (case hy => first | exact evo_ki | exact evo_kb | exact rfl); (case hT => exact rfl); (case hd => exact rfl); (case hE => exact rfl); (case he => exact rfl); (case hs => exact rfl); (case hl => exact lz); (case hm => exact lz); (case hr' => exact rfl)) | (apply Does.eqInts (m := List.replicate 8 0) qK_inj tt; (case ho => with_reducible exact rfl); (case hx => first | exact evo_ki | exact evo_kb | exact rfl); (case hy => first | exact evo_ki | exact evo_kb | exact rfl); (case hT => exact rfl); (case hd => exact rfl); (case hE => exact rfl); (case he => exact rfl); (case hs => exact rfl); (case hl => exact lz); (case hm => exact lz); (case hr' => exact rfl)) | (apply Does.eqInts (m := List.replicate 8 0) bK_inj tt; (case ho => with_reducible exact rfl); (case hx => first | exact evo_ki | exact evo_kb | exact rfl); (case hy => first | exact evo_ki | exact evo_kb | exact rfl); (case hT => exact rfl); (case hd => exact rfl); (case hE => exact rfl); (case he => exact rfl); (case hs => exact rfl); (case hl => exact lz); (case hm => exact lz); (case hr' => exact rfl)) | (apply Does.neInts bK_inj tt; (case ho => with_reducible exact rfl); (case hx => first | exact evo_ki | exact evo_kb | exact rfl); (case hy => first | exact evo_ki | exact evo_kb | exact rfl); (case hT => exact rfl); (case hd => exact rfl); (case hE => exact rfl); (case he => exact rfl); (case hs => exact rfl); (case hl => exact lz); (case hm => exact lz); (case hr' => exact rfl)) | (apply Does.neInts qK_inj tt; (case ho => with_reducible exact rfl); (case hx => first | exact evo_ki | exact evo_kb | exact rfl); (case hy => first | exact evo_ki | exact evo_kb | exact rfl); (case hT => exact rfl); (case hd => exact rfl); (case hE => exact rfl); (case he => exact rfl); (case hs => exact rfl); (case hl => exact lz); (case hm => exact lz); (case hr' => exact rfl)) | (apply Does.neInts uK_inj tt; (case ho => with_reducible exact rfl); (case hx => first | exact evo_ki | exact evo_kb | exact rfl); (case hy => first | exact evo_ki | exact evo_kb | exact rfl); (case hT => exact rfl); (case hd => exact rfl); (case hE => exact rfl); (case he => exact rfl); (case hs => exact rfl); (case hl => exact lz); (case hm => exact lz); (case hr' => exact rfl)) | (apply Does.neInts (m := List.replicate 4 0) uK_inj tt; (case ho => with_reducible exact rfl); (case hx => first | exact evo_ki | exact evo_kb | exact rfl); (case hy => first | exact evo_ki | exact evo_kb | exact rfl); (case hT => exact rfl); (case hd => exact rfl); (case hE => exact rfl); (case he => exact rfl); (case hs => exact rfl); (case hl => exact lz); (case hm => exact lz); (case hr' => exact rfl)) | (apply Does.neInts (m := List.replicate 32 0) bK_inj tt; (case ho => with_reducible exact rfl); (case hx => first | exact evo_ki | exact evo_kb | exact rfl); (case hy => first | exact evo_ki | exact evo_kb | exact rfl); (case hT => exact rfl); (case hd => exact rfl); (case hE => exact rfl); (case he => exact rfl); (case hs => exact rfl); (case hl => exact lz); (case hm => exact lz); (case hr' => exact rfl)) | (apply Does.neInts (m := List.replicate 8 0) qK_inj tt; (case ho => with_reducible exact rfl); (case hx => first | exact evo_ki | exact evo_kb | exact rfl); (case hy => first | exact evo_ki | exact evo_kb | exact rfl); (case hT => exact rfl); (case hd => exact rfl); (case hE => exact rfl); (case he => exact rfl); (case hs => exact rfl); (case hl => exact lz); (case hm => exact lz); (case hr' => exact rfl)) | (apply Does.neInts (m := List.replicate 8 0) bK_inj tt; (case ho => with_reducible exact rfl); (case hx => first | exact evo_ki | exact evo_kb | exact rfl); (case hy => first | exact evo_ki | exact evo_kb | exact rfl); (case hT => exact rfl); (case hd => exact rfl); (case hE => exact rfl); (case he => exact rfl); (case hs => exact rfl); (case hl => exact lz); (case hm => exact lz); (case hr' => exact rfl)) | (apply Does.eqSt tt; (case ho => with_reducible exact rfl); (case hx => first | exact evo_ki | exact evo_kb | exact rfl); (case hy => first | exact evo_ki | exact evo_kb | exact rfl); (case hT => exact rfl); (case hd => exact rfl); (case hks => exact rfl); (case hq => first | assumption | exact ⟨by kernel_rfl, by kernel_rfl, by kernel_rfl⟩); (case h1 => first | assumption | exact kd1 _ | exact kd2 _ | exact kd3 _ | (repeat (first | exact KindsOf.nil | refine KindsOf.cons ?_ | refine KindsOf.maps (fun _ => rfl) ?_ (by assumption) | exact KindsOf.map1 (fun _ => rfl) (by assumption)))); (case h2 => first | assumption | exact kd1 _ | exact kd2 _ | exact kd3 _ | (repeat (first | exact KindsOf.nil | refine KindsOf.cons ?_ | refine KindsOf.maps (fun _ => rfl) ?_ (by assumption) | exact KindsOf.map1 (fun _ => rfl) (by assumption)))); (case hr' => exact rfl)) | (apply Does.neSt tt; (case ho => with_reducible exact rfl); (case hx => first | exact evo_ki | exact evo_kb | exact rfl); (case hy => first | exact evo_ki | exact evo_kb | exact rfl); (case hT => exact rfl); (case hd => exact rfl); (case hks => exact rfl); (case hq => first | assumption | exact ⟨by kernel_rfl, by kernel_rfl, by kernel_rfl⟩); (case h1 => first | assumption | exact kd1 _ | exact kd2 _ | exact kd3 _ | (repeat (first | exact KindsOf.nil | refine KindsOf.cons ?_ | refine KindsOf.maps (fun _ => rfl) ?_ (by assumption) | exact KindsOf.map1 (fun _ => rfl) (by assumption)))); (case h2 => first | assumption | exact kd1 _ | exact kd2 _ | exact kd3 _ | (repeat (first | exact KindsOf.nil | refine KindsOf.cons ?_ | refine KindsOf.maps (fun _ => rfl) ?_ (by assumption) | exact KindsOf.map1 (fun _ => rfl) (by assumption)))); (case hr' => exact rfl)))); (case hd => exact rfl)) | (apply DR.gB; (case hg => first | exact rfl | exact gd_y rfl rfl rfl (by assumption)); (case hds => exact rfl); (case hu => exact rfl); (case h => (first | (apply Does.eqB tt; (case ho => with_reducible exact rfl); (case hx => first | exact evo_ki | exact evo_kb | exact rfl); (case hy => first | exact evo_ki | exact evo_kb | exact rfl); (case hT => exact rfl); (case hd => exact rfl)) | (apply Does.neB tt; (case ho => with_reducible exact rfl); (case hx => first | exact evo_ki | exact evo_kb | exact rfl); (case hy => first | exact evo_ki | exact evo_kb | exact rfl); (case hT => exact rfl); (case hd => exact rfl)) | (apply Does.arithS; (case ho => with_reducible exact rfl); (case hx => first | exact evo_ki | exact evo_kb | exact rfl); (case hy => first | exact evo_ki | exact evo_kb | exact rfl); (case hr => first | with_reducible assumption | exact rfl)) | (apply Does.call; (case ho => with_reducible exact rfl); (case hx => exact rfl); (first | ((case' hc => apply c1); (case hu => first | exact .same _ | exact ft1 rfl | exact ft2 rfl | (apply ft1; simp only [V.cv, V.cv.go, V.cells, cv_mapb, cv_mapq, cv_mapu] <;> rfl))) | ((case' hc => apply c2); (case hu => first | exact .same _ | exact ft1 rfl | exact ft2 rfl | (apply ft1; simp only [V.cv, V.cv.go, V.cells, cv_mapb, cv_mapq, cv_mapu] <;> rfl))) | ((case' hc => apply c3); (case hu => first | exact .same _ | exact ft1 rfl | exact ft2 rfl | (apply ft1; simp only [V.cv, V.cv.go, V.cells, cv_mapb, cv_mapq, cv_mapu] <;> rfl))) | ((case' hc => apply c4); (case hu => first | exact .same _ | exact ft1 rfl | exact ft2 rfl | (apply ft1; simp only [V.cv, V.cv.go, V.cells, cv_mapb, cv_mapq, cv_mapu] <;> rfl))) | ((case' hc => apply c5); (case hu => first | exact .same _ | exact ft1 rfl | exact ft2 rfl | (apply ft1; simp only [V.cv, V.cv.go, V.cells, cv_mapb, cv_mapq, cv_mapu] <;> rfl))) | ((case' hc => apply c6); (case hu => first | exact .same _ | exact ft1 rfl | exact ft2 rfl | (apply ft1; simp only [V.cv, V.cv.go, V.cells, cv_mapb, cv_mapq, cv_mapu] <;> rfl))) | ((case' hc => apply c7); (case hu => first | exact .same _ | exact ft1 rfl | exact ft2 rfl | (apply ft1; simp only [V.cv, V.cv.go, V.cells, cv_mapb, cv_mapq, cv_mapu] <;> rfl))) | ((case' hc => apply c8); (case hu => first | exact .same _ | exact ft1 rfl | exact ft2 rfl | (apply ft1; simp only [V.cv, V.cv.go, V.cells, cv_mapb, cv_mapq, cv_mapu] <;> rfl))) | ((case' hc => apply c9); (case hu => first | exact .same _ | exact ft1 rfl | exact ft2 rfl | (apply ft1; simp only [V.cv, V.cv.go, V.cells, cv_mapb, cv_mapq, cv_mapu] <;> rfl))) | ((case' hc => apply c10); (case hu => first | exact .same _ | exact ft1 rfl | exact ft2 rfl | (apply ft1; simp only [V.cv, V.cv.go, V.cells, cv_mapb, cv_mapq, cv_mapu] <;> rfl))) | ((case' hc => apply c11); (case hu => first | exact .same _ | exact ft1 rfl | exact ft2 rfl | (apply ft1; simp only [V.cv, V.cv.go, V.cells, cv_mapb, cv_mapq, cv_mapu] <;> rfl))) | ((case' hc => apply c12); (case hu => first | exact .same _ | exact ft1 rfl | exact ft2 rfl | (apply ft1; simp only [V.cv, V.cv.go, V.cells, cv_mapb, cv_mapq, cv_mapu] <;> rfl))) | ((case' hc => apply c13); (case hu => first | exact .same _ | exact ft1 rfl | exact ft2 rfl | (apply ft1; simp only [V.cv, V.cv.go, V.cells, cv_mapb, cv_mapq, cv_mapu] <;> rfl))) | ((case' hc => apply c14); (case hu => first | exact .same _ | exact ft1 rfl | exact ft2 rfl | (apply ft1; simp only [V.cv, V.cv.go, V.cells, cv_mapb, cv_mapq, cv_mapu] <;> rfl))) | ((case' hc => apply c15); (case hu => first | exact .same _ | exact ft1 rfl | exact ft2 rfl | (apply ft1; simp only [V.cv, V.cv.go, V.cells, cv_mapb, cv_mapq, cv_mapu] <;> rfl))) | ((case' hc => apply c16); (case hu => first | exact .same _ | exact ft1 rfl | exact ft2 rfl | (apply ft1; simp only [V.cv, V.cv.go, V.cells, cv_mapb, cv_mapq, cv_mapu] <;> rfl)))); (case hr => first | exact rfl | (simp only [V.cells, refsE, refsM, V.refs, V.refs.go, V.pure, V.pure.go, pure_mapq, pure_mapb, pure_mapu, refs_mapq, refs_mapb, refs_mapu, refs_append, Bool.and_true, Bool.true_and, Bool.and_self] <;> exact rfl) | (simp only [V.cells, refsE, refsM, V.refs, V.refs.go, V.pure, V.pure.go, pure_mapq, pure_mapb, pure_mapu, refs_mapq, refs_mapb, refs_mapu, refs_append, Bool.and_true, Bool.true_and, Bool.and_self, hrf] <;> exact rfl) | (simp only [V.cells, refsE, refsM, V.refs, V.refs.go, V.pure, V.pure.go, pure_mapq, pure_mapb, pure_mapu, refs_mapq, refs_mapb, refs_mapu, refs_append, Bool.and_true, Bool.true_and, Bool.and_self, hrf, hrg] <;> exact rfl) | exact lz); all_goals exact lz))); (case hd => exact rfl)) | (apply DR.pp; (case hg => first | exact rfl | exact gd_y rfl rfl rfl (by assumption)); (case hds => exact rfl); (case h => (apply Does.gB; (case ho => with_reducible exact rfl); (case h => (first | (apply Does.lss; (case ho => with_reducible exact rfl); (case hx => exact rfl); (case hy => exact rfl); (case hr => exact rfl)) | (apply Does.eql; (case ho => with_reducible exact rfl); (case hx => exact rfl); (case hy => exact rfl); (case hr => exact rfl)) | (apply Does.neq; (case ho => with_reducible exact rfl); (case hx => exact rfl); (case hy => exact rfl); (case hr => exact rfl)) | (apply Does.leq; (case ho => with_reducible exact rfl); (case hx => exact rfl); (case hy => exact rfl); (case hr => exact rfl)) | (apply Does.gtr; (case ho => with_reducible exact rfl); (case hx => exact rfl); (case hy => exact rfl); (case hr => exact rfl)) | (apply Does.geq; (case ho => with_reducible exact rfl); (case hx => exact rfl); (case hy => exact rfl); (case hr => exact rfl)) | (apply Does.eqInts bK_inj tt; (case ho => with_reducible exact rfl); (case hx => first | exact evo_ki | exact evo_kb | exact rfl); (case hy => first | exact evo_ki | exact evo_kb | exact rfl); (case hT => exact rfl); (case hd => exact rfl); (case hE => exact rfl); (case he => exact rfl); (case hs => exact rfl); (case hl => exact lz); (case hm => exact lz); (case hr' => exact rfl)) | (apply Does.eqInts qK_inj tt; (case ho => with_reducible exact rfl); (case hx => first | exact evo_ki | exact evo_kb | exact rfl); (case hy => first | exact evo_ki | exact evo_kb | exact rfl); (case hT => exact rfl); (case hd => exact rfl); (case hE => exact rfl); (case he => exact rfl); (case hs => exact rfl); (case hl => exact lz); (case hm => exact lz); (case hr' => exact rfl)) | (apply Does.eqInts uK_inj tt; (case ho => with_reducible exact rfl); (case hx => first | exact evo_ki | exact evo_kb | exact rfl); (case hy => first | exact evo_ki | exact evo_kb | exact rfl); (case hT => exact rfl); (case hd => exact rfl); (case hE => exact rfl); (case he => exact rfl); (case hs => exact rfl); (case hl => exact lz); (case hm => exact lz); (case hr' => exact rfl)) | (apply Does.eqInts (m := List.replicate 4 0) uK_inj tt; (case ho => with_reducible exact rfl); (case hx => first | exact evo_ki | exact evo_kb | exact rfl); (case hy => first | exact evo_ki | exact evo_kb | exact rfl); (case hT => exact rfl); (case hd => exact rfl); (case hE => exact rfl); (case he => exact rfl); (case hs => exact rfl); (case hl => exact lz); (case hm => exact lz); (case hr' => exact rfl)) | (apply Does.eqInts (m := List.replicate 32 0) bK_inj tt; (case ho => with_reducible exact rfl); (case hx => first | exact evo_ki | exact evo_kb | exact rfl); (case hy => first | exact evo_ki | exact evo_kb | exact rfl); (case hT => exact rfl); (case hd => exact rfl); (case hE => exact rfl); (case he => exact rfl); (case hs => exact rfl); (case hl => exact lz); (case hm => exact lz); (case hr' => exact rfl)) | (apply Does.eqInts (m := List.replicate 8 0) qK_inj tt; (case ho => with_reducible exact rfl); (case hx => first | exact evo_ki | exact evo_kb | exact rfl); (case hy => first | exact evo_ki | exact evo_kb | exact rfl); (case hT => exact rfl); (case hd => exact rfl); (case hE => exact rfl); (case he => exact rfl); (case hs => exact rfl); (case hl => exact lz); (case hm => exact lz); (case hr' => exact rfl)) | (apply Does.eqInts (m := List.replicate 8 0) bK_inj tt; (case ho => with_reducible exact rfl); (case hx => first | exact evo_ki | exact evo_kb | exact rfl); (case hy => first | exact evo_ki | exact evo_kb | exact rfl); (case hT => exact rfl); (case hd => exact rfl); (case hE => exact rfl); (case he => exact rfl); (case hs => exact rfl); (case hl => exact lz); (case hm => exact lz); (case hr' => exact rfl)) | (apply Does.neInts bK_inj tt; (case ho => with_reducible exact rfl); (case hx => first | exact evo_ki | exact evo_kb | exact rfl); (case hy => first | exact evo_ki | exact evo_kb | exact rfl); (case hT => exact rfl); (case hd => exact rfl); (case hE => exact rfl); (case he => exact rfl); (case hs => exact rfl); (case hl => exact lz); (case hm => exact lz); (case hr' => exact rfl)) | (apply Does.neInts qK_inj tt; (case ho => with_reducible exact rfl); (case hx => first | exact evo_ki | exact evo_kb | exact rfl); (case hy => first | exact evo_ki | exact evo_kb | exact rfl); (case hT => exact rfl); (case hd => exact rfl); (case hE => exact rfl); (case he => exact rfl); (case hs => exact rfl); (case hl => exact lz); (case hm => exact lz); (case hr' => exact rfl)) | (apply Does.neInts uK_inj tt; (case ho => with_reducible exact rfl); (case hx => first | exact evo_ki | exact evo_kb | exact rfl); (case hy => first | exact evo_ki | exact evo_kb | exact rfl); (case hT => exact rfl); (case hd => exact rfl); (case hE => exact rfl); (case he => exact rfl); (case hs => exact rfl); (case hl => exact lz); (case hm => exact lz); (case hr' => exact rfl)) | (apply Does.neInts (m := List.replicate 4 0) uK_inj tt; (case ho => with_reducible exact rfl); (case hx => first | exact evo_ki | exact evo_kb | exact rfl); (case hy => first | exact evo_ki | exact evo_kb | exact rfl); (case hT => exact rfl); (case hd => exact rfl); (case hE => exact rfl); (case he => exact rfl); (case hs => exact rfl); (case hl => exact lz); (case hm => exact lz); (case hr' => exact rfl)) | (apply Does.neInts (m := List.replicate 32 0) bK_inj tt; (case ho => with_reducible exact rfl); (case hx => first | exact evo_ki | exact evo_kb | exact rfl); (case hy => first | exact evo_ki | exact evo_kb | exact rfl); (case hT => exact rfl); (case hd => exact rfl); (case hE => exact rfl); (case he => exact rfl); (case hs => exact rfl); (case hl => exact lz); (case hm => exact lz); (case hr' => exact rfl)) | (apply Does.neInts (m := List.replicate 8 0) qK_inj tt; (case ho => with_reducible exact rfl); (case hx => first | exact evo_ki | exact evo_kb | exact rfl); (case hy => first | exact evo_ki | exact evo_kb | exact rfl); (case hT => exact rfl); (case hd => exact rfl); (case hE => exact rfl); (case he => exact rfl); (case hs => exact rfl); (case hl => exact lz); (case hm => exact lz); (case hr' => exact rfl)) | (apply Does.neInts (m := List.replicate 8 0) bK_inj tt; (case ho => with_reducible exact rfl); (case hx => first | exact evo_ki | exact evo_kb | exact rfl); (case hy => first | exact evo_ki | exact evo_kb | exact rfl); (case hT => exact rfl); (case hd => exact rfl); (case hE => exact rfl); (case he => exact rfl); (case hs => exact rfl); (case hl => exact lz); (case hm => exact lz); (case hr' => exact rfl)) | (apply Does.eqSt tt; (case ho => with_reducible exact rfl); (case hx => first | exact evo_ki | exact evo_kb | exact rfl); (case hy => first | exact evo_ki | exact evo_kb | exact rfl); (case hT => exact rfl); (case hd => exact rfl); (case hks => exact rfl); (case hq => first | assumption | exact ⟨by kernel_rfl, by kernel_rfl, by kernel_rfl⟩); (case h1 => first | assumption | exact kd1 _ | exact kd2 _ | exact kd3 _ | (repeat (first | exact KindsOf.nil | refine KindsOf.cons ?_ | refine KindsOf.maps (fun _ => rfl) ?_ (by assumption) | exact KindsOf.map1 (fun _ => rfl) (by assumption)))); (case h2 => first | assumption | exact kd1 _ | exact kd2 _ | exact kd3 _ | (repeat (first | exact KindsOf.nil | refine KindsOf.cons ?_ | refine KindsOf.maps (fun _ => rfl) ?_ (by assumption) | exact KindsOf.map1 (fun _ => rfl) (by assumption)))); (case hr' => exact rfl)) | (apply Does.neSt tt; (case ho => with_reducible exact rfl); (case hx => first | exact evo_ki | exact evo_kb | exact rfl); (case hy => first | exact evo_ki | exact evo_kb | exact rfl); (case hT => exact rfl); (case hd => exact rfl); (case hks => exact rfl); (case hq => first | assumption | exact ⟨by kernel_rfl, by kernel_rfl, by kernel_rfl⟩); (case h1 => first | assumption | exact kd1 _ | exact kd2 _ | exact kd3 _ | (repeat (first | exact KindsOf.nil | refine KindsOf.cons ?_ | refine KindsOf.maps (fun _ => rfl) ?_ (by assumption) | exact KindsOf.map1 (fun _ => rfl) (by assumption)))); (case h2 => first | assumption | exact kd1 _ | exact kd2 _ | exact kd3 _ | (repeat (first | exact KindsOf.nil | refine KindsOf.cons ?_ | refine KindsOf.maps (fun _ => rfl) ?_ (by assumption) | exact KindsOf.map1 (fun _ => rfl) (by assumption)))); (case hr' => exact rfl)) | (apply Does.eqB tt; (case ho => with_reducible exact rfl); (case hx => first | exact evo_ki | exact evo_kb | exact rfl); (case hy => first | exact evo_ki | exact evo_kb | exact rfl); (case hT => exact rfl); (case hd => exact rfl)) | (apply Does.neB tt; (case ho => with_reducible exact rfl); (case hx => first | exact evo_ki | exact evo_kb | exact rfl); (case hy => first | exact evo_ki | exact evo_kb | exact rfl); (case hT => exact rfl); (case hd => exact rfl)) | (apply Does.arithS; (case ho => with_reducible exact rfl); (case hx => first | exact evo_ki | exact evo_kb | exact rfl); (case hy => first | exact evo_ki | exact evo_kb | exact rfl); (case hr => first | with_reducible assumption | exact rfl)))))); (case hd => exact rfl)) | (apply LC.pan3; (case _ho => with_reducible exact rfl)) | (apply LC.pan1; (case _ho => with_reducible exact rfl)) | (apply LS.panic; (case ho => with_reducible exact rfl); (case hg => exact rfl); (case hx => exact rfl)) | (apply LS.panC; (case ho => with_reducible exact rfl); (case hg => exact rfl); (case hx => exact rfl); (first | ((case' hc => apply p1); (case hu => first | exact .same _ | exact ft1 rfl | exact ft2 rfl | (apply ft1; simp only [V.cv, V.cv.go, V.cells, cv_mapb, cv_mapq, cv_mapu] <;> rfl))) | ((case' hc => apply p2); (case hu => first | exact .same _ | exact ft1 rfl | exact ft2 rfl | (apply ft1; simp only [V.cv, V.cv.go, V.cells, cv_mapb, cv_mapq, cv_mapu] <;> rfl))) | ((case' hc => apply p3); (case hu => first | exact .same _ | exact ft1 rfl | exact ft2 rfl | (apply ft1; simp only [V.cv, V.cv.go, V.cells, cv_mapb, cv_mapq, cv_mapu] <;> rfl)))); (case hr => first | exact rfl | (simp only [V.cells, refsE, refsM, V.refs, V.refs.go, V.pure, V.pure.go, pure_mapq, pure_mapb, pure_mapu, refs_mapq, refs_mapb, refs_mapu, refs_append, Bool.and_true, Bool.true_and, Bool.and_self] <;> exact rfl) | (simp only [V.cells, refsE, refsM, V.refs, V.refs.go, V.pure, V.pure.go, pure_mapq, pure_mapb, pure_mapu, refs_mapq, refs_mapb, refs_mapu, refs_append, Bool.and_true, Bool.true_and, Bool.and_self, hrf] <;> exact rfl) | (simp only [V.cells, refsE, refsM, V.refs, V.refs.go, V.pure, V.pure.go, pure_mapq, pure_mapb, pure_mapu, refs_mapq, refs_mapb, refs_mapu, refs_append, Bool.and_true, Bool.true_and, Bool.and_self, hrf, hrg] <;> exact rfl) | exact lz); (case ht => first | exact True.intro | exact And.intro rfl True.intro | exact And.intro rfl (And.intro rfl True.intro) | exact And.intro rfl (And.intro rfl (And.intro rfl True.intro)) | exact And.intro rfl (And.intro rfl (And.intro rfl (And.intro rfl True.intro))))) | (apply PanAt.call; (case hk => exact rfl); (case ho => exact rfl); (case hg => exact rfl); (case hx => exact rfl); (first | ((case' hc => apply p1); (case hu => first | exact .same _ | exact ft1 rfl | exact ft2 rfl | (apply ft1; simp only [V.cv, V.cv.go, V.cells, cv_mapb, cv_mapq, cv_mapu] <;> rfl))) | ((case' hc => apply p2); (case hu => first | exact .same _ | exact ft1 rfl | exact ft2 rfl | (apply ft1; simp only [V.cv, V.cv.go, V.cells, cv_mapb, cv_mapq, cv_mapu] <;> rfl))) | ((case' hc => apply p3); (case hu => first | exact .same _ | exact ft1 rfl | exact ft2 rfl | (apply ft1; simp only [V.cv, V.cv.go, V.cells, cv_mapb, cv_mapq, cv_mapu] <;> rfl)))); (case hr => first | exact rfl | (simp only [V.cells, refsE, refsM, V.refs, V.refs.go, V.pure, V.pure.go, pure_mapq, pure_mapb, pure_mapu, refs_mapq, refs_mapb, refs_mapu, refs_append, Bool.and_true, Bool.true_and, Bool.and_self] <;> exact rfl) | (simp only [V.cells, refsE, refsM, V.refs, V.refs.go, V.pure, V.pure.go, pure_mapq, pure_mapb, pure_mapu, refs_mapq, refs_mapb, refs_mapu, refs_append, Bool.and_true, Bool.true_and, Bool.and_self, hrf] <;> exact rfl) | (simp only [V.cells, refsE, refsM, V.refs, V.refs.go, V.pure, V.pure.go, pure_mapq, pure_mapb, pure_mapu, refs_mapq, refs_mapb, refs_mapu, refs_append, Bool.and_true, Bool.true_and, Bool.and_self, hrf, hrg] <;> exact rfl) | exact lz); (case ht => first | exact True.intro | exact And.intro rfl True.intro | exact And.intro rfl (And.intro rfl True.intro) | exact And.intro rfl (And.intro rfl (And.intro rfl True.intro)) | exact And.intro rfl (And.intro rfl (And.intro rfl (And.intro rfl True.intro))))) | refine LC.seq ?_ | refine LC.upToM hp1 ?_ | refine LC.upToM hp2 ?_ | (refine LC.drawPanM hq1 mixed (by kernel_rfl) ?_; dsimp only [pickI, nth]) | refine LC.regionD ?_ | refine LC.block ?_ | refine LC.skip ?_ | refine LC.label ?_ | refine LC.exit ?_ | refine LC.scope ?_ | refine LC.condT rfl ?_ | refine LC.condF rfl ?_ | refine LC.draw mixed (by kernel_rfl) ?_ | refine DR.nl (by kernel_rfl) ?_ | refine LC.iteT rfl (by assumption) ?_ | refine LC.iteF rfl (by assumption) ?_ | refine LC.iteD rfl ⟨?_, ?_⟩ | refine LC.iteN rfl ⟨?_, ?_⟩ | refine LC.iteB rfl ⟨?_, ?_⟩ | exact Unit.unit | refine LC.roundsM hrd ?_ | refine LRd.go rfl ?_ | (apply LNext2.go; (case he => (repeat (first | exact True.intro | refine And.intro rfl ?_))); (case hm => (repeat (first | exact True.intro | refine And.intro rfl ?_))); (case hk => exact rfl); (case hrE => first | exact rfl | (simp only [V.cells, refsE, refsM, V.refs, V.refs.go, V.pure, V.pure.go, pure_mapq, pure_mapb, pure_mapu, refs_mapq, refs_mapb, refs_mapu, refs_append, Bool.and_true, Bool.true_and, Bool.and_self] <;> exact rfl) | (simp only [V.cells, refsE, refsM, V.refs, V.refs.go, V.pure, V.pure.go, pure_mapq, pure_mapb, pure_mapu, refs_mapq, refs_mapb, refs_mapu, refs_append, Bool.and_true, Bool.true_and, Bool.and_self, hrf] <;> exact rfl) | (simp only [V.cells, refsE, refsM, V.refs, V.refs.go, V.pure, V.pure.go, pure_mapq, pure_mapb, pure_mapu, refs_mapq, refs_mapb, refs_mapu, refs_append, Bool.and_true, Bool.true_and, Bool.and_self, hrf, hrg] <;> exact rfl) | exact lz); (case hrM => first | exact rfl | (simp only [V.cells, refsE, refsM, V.refs, V.refs.go, V.pure, V.pure.go, pure_mapq, pure_mapb, pure_mapu, refs_mapq, refs_mapb, refs_mapu, refs_append, Bool.and_true, Bool.true_and, Bool.and_self] <;> exact rfl) | (simp only [V.cells, refsE, refsM, V.refs, V.refs.go, V.pure, V.pure.go, pure_mapq, pure_mapb, pure_mapu, refs_mapq, refs_mapb, refs_mapu, refs_append, Bool.and_true, Bool.true_and, Bool.and_self, hrf] <;> exact rfl) | (simp only [V.cells, refsE, refsM, V.refs, V.refs.go, V.pure, V.pure.go, pure_mapq, pure_mapb, pure_mapu, refs_mapq, refs_mapb, refs_mapu, refs_append, Bool.and_true, Bool.true_and, Bool.and_self, hrf, hrg] <;> exact rfl) | exact lz); (case hok => first | assumption | exact lz | trivial | (refine ⟨?_, ?_⟩ <;> exact lz) | (refine ⟨?_, ?_, ?_⟩ <;> exact lz)); (case hlt => exact lz)) | (apply LNext3.go; (case he => (repeat (first | exact True.intro | refine And.intro rfl ?_))); (case hm => (repeat (first | exact True.intro | refine And.intro rfl ?_))); (case hk => exact rfl); (case hrE => first | exact rfl | (simp only [V.cells, refsE, refsM, V.refs, V.refs.go, V.pure, V.pure.go, pure_mapq, pure_mapb, pure_mapu, refs_mapq, refs_mapb, refs_mapu, refs_append, Bool.and_true, Bool.true_and, Bool.and_self] <;> exact rfl) | (simp only [V.cells, refsE, refsM, V.refs, V.refs.go, V.pure, V.pure.go, pure_mapq, pure_mapb, pure_mapu, refs_mapq, refs_mapb, refs_mapu, refs_append, Bool.and_true, Bool.true_and, Bool.and_self, hrf] <;> exact rfl) | (simp only [V.cells, refsE, refsM, V.refs, V.refs.go, V.pure, V.pure.go, pure_mapq, pure_mapb, pure_mapu, refs_mapq, refs_mapb, refs_mapu, refs_append, Bool.and_true, Bool.true_and, Bool.and_self, hrf, hrg] <;> exact rfl) | exact lz); (case hrM => first | exact rfl | (simp only [V.cells, refsE, refsM, V.refs, V.refs.go, V.pure, V.pure.go, pure_mapq, pure_mapb, pure_mapu, refs_mapq, refs_mapb, refs_mapu, refs_append, Bool.and_true, Bool.true_and, Bool.and_self] <;> exact rfl) | (simp only [V.cells, refsE, refsM, V.refs, V.refs.go, V.pure, V.pure.go, pure_mapq, pure_mapb, pure_mapu, refs_mapq, refs_mapb, refs_mapu, refs_append, Bool.and_true, Bool.true_and, Bool.and_self, hrf] <;> exact rfl) | (simp only [V.cells, refsE, refsM, V.refs, V.refs.go, V.pure, V.pure.go, pure_mapq, pure_mapb, pure_mapu, refs_mapq, refs_mapb, refs_mapu, refs_append, Bool.and_true, Bool.true_and, Bool.and_self, hrf, hrg] <;> exact rfl) | exact lz); (case hok => first | assumption | exact lz | trivial | (refine ⟨?_, ?_⟩ <;> exact lz) | (refine ⟨?_, ?_, ?_⟩ <;> exact lz)); (case hlt => exact lz)) | (apply LNext.go; (case he => (repeat (first | exact True.intro | refine And.intro rfl ?_))); (case hm => (repeat (first | exact True.intro | refine And.intro rfl ?_))); (case hk => exact rfl); (case hrE => first | exact rfl | (simp only [V.cells, refsE, refsM, V.refs, V.refs.go, V.pure, V.pure.go, pure_mapq, pure_mapb, pure_mapu, refs_mapq, refs_mapb, refs_mapu, refs_append, Bool.and_true, Bool.true_and, Bool.and_self] <;> exact rfl) | (simp only [V.cells, refsE, refsM, V.refs, V.refs.go, V.pure, V.pure.go, pure_mapq, pure_mapb, pure_mapu, refs_mapq, refs_mapb, refs_mapu, refs_append, Bool.and_true, Bool.true_and, Bool.and_self, hrf] <;> exact rfl) | (simp only [V.cells, refsE, refsM, V.refs, V.refs.go, V.pure, V.pure.go, pure_mapq, pure_mapb, pure_mapu, refs_mapq, refs_mapb, refs_mapu, refs_append, Bool.and_true, Bool.true_and, Bool.and_self, hrf, hrg] <;> exact rfl) | exact lz); (case hrM => first | exact rfl | (simp only [V.cells, refsE, refsM, V.refs, V.refs.go, V.pure, V.pure.go, pure_mapq, pure_mapb, pure_mapu, refs_mapq, refs_mapb, refs_mapu, refs_append, Bool.and_true, Bool.true_and, Bool.and_self] <;> exact rfl) | (simp only [V.cells, refsE, refsM, V.refs, V.refs.go, V.pure, V.pure.go, pure_mapq, pure_mapb, pure_mapu, refs_mapq, refs_mapb, refs_mapu, refs_append, Bool.and_true, Bool.true_and, Bool.and_self, hrf] <;> exact rfl) | (simp only [V.cells, refsE, refsM, V.refs, V.refs.go, V.pure, V.pure.go, pure_mapq, pure_mapb, pure_mapu, refs_mapq, refs_mapb, refs_mapu, refs_append, Bool.and_true, Bool.true_and, Bool.and_self, hrf, hrg] <;> exact rfl) | exact lz); (case hok => first | assumption | exact lz | trivial | (refine ⟨?_, ?_⟩ <;> exact lz) | (refine ⟨?_, ?_, ?_⟩ <;> exact lz)); (case hlt => exact lz)) | (apply LNext5.go; (case he => (repeat (first | exact True.intro | refine And.intro rfl ?_))); (case hm => (repeat (first | exact True.intro | refine And.intro rfl ?_))); (case hk => exact rfl); (case hrE => first | exact rfl | (simp only [V.cells, refsE, refsM, V.refs, V.refs.go, V.pure, V.pure.go, pure_mapq, pure_mapb, pure_mapu, refs_mapq, refs_mapb, refs_mapu, refs_append, Bool.and_true, Bool.true_and, Bool.and_self] <;> exact rfl) | (simp only [V.cells, refsE, refsM, V.refs, V.refs.go, V.pure, V.pure.go, pure_mapq, pure_mapb, pure_mapu, refs_mapq, refs_mapb, refs_mapu, refs_append, Bool.and_true, Bool.true_and, Bool.and_self, hrf] <;> exact rfl) | (simp only [V.cells, refsE, refsM, V.refs, V.refs.go, V.pure, V.pure.go, pure_mapq, pure_mapb, pure_mapu, refs_mapq, refs_mapb, refs_mapu, refs_append, Bool.and_true, Bool.true_and, Bool.and_self, hrf, hrg] <;> exact rfl) | exact lz); (case hrM => first | exact rfl | (simp only [V.cells, refsE, refsM, V.refs, V.refs.go, V.pure, V.pure.go, pure_mapq, pure_mapb, pure_mapu, refs_mapq, refs_mapb, refs_mapu, refs_append, Bool.and_true, Bool.true_and, Bool.and_self] <;> exact rfl) | (simp only [V.cells, refsE, refsM, V.refs, V.refs.go, V.pure, V.pure.go, pure_mapq, pure_mapb, pure_mapu, refs_mapq, refs_mapb, refs_mapu, refs_append, Bool.and_true, Bool.true_and, Bool.and_self, hrf] <;> exact rfl) | (simp only [V.cells, refsE, refsM, V.refs, V.refs.go, V.pure, V.pure.go, pure_mapq, pure_mapb, pure_mapu, refs_mapq, refs_mapb, refs_mapu, refs_append, Bool.and_true, Bool.true_and, Bool.and_self, hrf, hrg] <;> exact rfl) | exact lz); (case hok => first | assumption | exact lz | trivial | (refine ⟨?_, ?_⟩ <;> exact lz) | (refine ⟨?_, ?_, ?_⟩ <;> exact lz)); (case hlt => exact lz)) | refine LC.ret ?_ | (with_reducible first | apply thP | apply blkP | apply ngP | apply thR | apply thE | apply blkR | apply blkE | apply blkN | apply ngR) | ((with_reducible first | apply LRet.ret_ | apply LRet.nrm); (case h => first | exact resV_1 (by first | (with_reducible refine res1_tmp ?_; exact rfl) | ((with_reducible apply res1_cell); (case h1 => exact rfl); (case h2 => exact rfl); (case h3 => exact rfl); (case h4 => (first | exact part_map rfl rfl lz | exact part_whole rfl lz | (apply ld1 <;> first | exact rfl | exact lz) | (apply ld2 <;> first | exact rfl | exact lz) | (apply ld3 <;> first | exact rfl | exact lz) | (apply ld4 <;> first | exact rfl | exact lz) | (apply ld5 <;> first | exact rfl | exact lz) | (apply ld6 <;> first | exact rfl | exact lz) | (apply ld7 <;> first | exact rfl | exact lz) | (apply part_l; (first | exact part_map rfl rfl lz | exact part_whole rfl lz | exact rfl)) | (apply part_l; apply part_r; (case hl => first | exact (List.length_map _).trans (by assumption) | ((try apply (List.length_map _).trans); (repeat apply List.length_set.trans); assumption) | rfl); (case hk => first | exact off_s | exact off_r (by decide) | exact off_r lz); (first | exact part_map rfl rfl lz | exact part_whole rfl lz | exact rfl)) | (apply part_r; (case hl => first | exact (List.length_map _).trans (by assumption) | ((try apply (List.length_map _).trans); (repeat apply List.length_set.trans); assumption) | rfl); (case hk => first | exact off_s | exact off_r (by decide) | exact off_r lz); first | (apply part_l; (first | exact part_map rfl rfl lz | exact part_whole rfl lz | exact rfl)) | (apply part_r; (case hl => first | exact (List.length_map _).trans (by assumption) | ((try apply (List.length_map _).trans); (repeat apply List.length_set.trans); assumption) | rfl); (case hk => first | exact off_s | exact off_r (by decide) | exact off_r lz); (first | exact part_map rfl rfl lz | exact part_whole rfl lz | exact rfl)) | (first | exact part_map rfl rfl lz | exact part_whole rfl lz | exact rfl)) | exact rfl))) | exact rfl) | exact resV_2 (by first | (with_reducible refine res1_tmp ?_; exact rfl) | ((with_reducible apply res1_cell); (case h1 => exact rfl); (case h2 => exact rfl); (case h3 => exact rfl); (case h4 => (first | exact part_map rfl rfl lz | exact part_whole rfl lz | (apply ld1 <;> first | exact rfl | exact lz) | (apply ld2 <;> first | exact rfl | exact lz) | (apply ld3 <;> first | exact rfl | exact lz) | (apply ld4 <;> first | exact rfl | exact lz) | (apply ld5 <;> first | exact rfl | exact lz) | (apply ld6 <;> first | exact rfl | exact lz) | (apply ld7 <;> first | exact rfl | exact lz) | (apply part_l; (first | exact part_map rfl rfl lz | exact part_whole rfl lz | exact rfl)) | (apply part_l; apply part_r; (case hl => first | exact (List.length_map _).trans (by assumption) | ((try apply (List.length_map _).trans); (repeat apply List.length_set.trans); assumption) | rfl); (case hk => first | exact off_s | exact off_r (by decide) | exact off_r lz); (first | exact part_map rfl rfl lz | exact part_whole rfl lz | exact rfl)) | (apply part_r; (case hl => first | exact (List.length_map _).trans (by assumption) | ((try apply (List.length_map _).trans); (repeat apply List.length_set.trans); assumption) | rfl); (case hk => first | exact off_s | exact off_r (by decide) | exact off_r lz); first | (apply part_l; (first | exact part_map rfl rfl lz | exact part_whole rfl lz | exact rfl)) | (apply part_r; (case hl => first | exact (List.length_map _).trans (by assumption) | ((try apply (List.length_map _).trans); (repeat apply List.length_set.trans); assumption) | rfl); (case hk => first | exact off_s | exact off_r (by decide) | exact off_r lz); (first | exact part_map rfl rfl lz | exact part_whole rfl lz | exact rfl)) | (first | exact part_map rfl rfl lz | exact part_whole rfl lz | exact rfl)) | exact rfl))) | exact rfl) (by first | (with_reducible refine res1_tmp ?_; exact rfl) | ((with_reducible apply res1_cell); (case h1 => exact rfl); (case h2 => exact rfl); (case h3 => exact rfl); (case h4 => (first | exact part_map rfl rfl lz | exact part_whole rfl lz | (apply ld1 <;> first | exact rfl | exact lz) | (apply ld2 <;> first | exact rfl | exact lz) | (apply ld3 <;> first | exact rfl | exact lz) | (apply ld4 <;> first | exact rfl | exact lz) | (apply ld5 <;> first | exact rfl | exact lz) | (apply ld6 <;> first | exact rfl | exact lz) | (apply ld7 <;> first | exact rfl | exact lz) | (apply part_l; (first | exact part_map rfl rfl lz | exact part_whole rfl lz | exact rfl)) | (apply part_l; apply part_r; (case hl => first | exact (List.length_map _).trans (by assumption) | ((try apply (List.length_map _).trans); (repeat apply List.length_set.trans); assumption) | rfl); (case hk => first | exact off_s | exact off_r (by decide) | exact off_r lz); (first | exact part_map rfl rfl lz | exact part_whole rfl lz | exact rfl)) | (apply part_r; (case hl => first | exact (List.length_map _).trans (by assumption) | ((try apply (List.length_map _).trans); (repeat apply List.length_set.trans); assumption) | rfl); (case hk => first | exact off_s | exact off_r (by decide) | exact off_r lz); first | (apply part_l; (first | exact part_map rfl rfl lz | exact part_whole rfl lz | exact rfl)) | (apply part_r; (case hl => first | exact (List.length_map _).trans (by assumption) | ((try apply (List.length_map _).trans); (repeat apply List.length_set.trans); assumption) | rfl); (case hk => first | exact off_s | exact off_r (by decide) | exact off_r lz); (first | exact part_map rfl rfl lz | exact part_whole rfl lz | exact rfl)) | (first | exact part_map rfl rfl lz | exact part_whole rfl lz | exact rfl)) | exact rfl))) | exact rfl) | exact resV_3 (by first | (with_reducible refine res1_tmp ?_; exact rfl) | ((with_reducible apply res1_cell); (case h1 => exact rfl); (case h2 => exact rfl); (case h3 => exact rfl); (case h4 => (first | exact part_map rfl rfl lz | exact part_whole rfl lz | (apply ld1 <;> first | exact rfl | exact lz) | (apply ld2 <;> first | exact rfl | exact lz) | (apply ld3 <;> first | exact rfl | exact lz) | (apply ld4 <;> first | exact rfl | exact lz) | (apply ld5 <;> first | exact rfl | exact lz) | (apply ld6 <;> first | exact rfl | exact lz) | (apply ld7 <;> first | exact rfl | exact lz) | (apply part_l; (first | exact part_map rfl rfl lz | exact part_whole rfl lz | exact rfl)) | (apply part_l; apply part_r; (case hl => first | exact (List.length_map _).trans (by assumption) | ((try apply (List.length_map _).trans); (repeat apply List.length_set.trans); assumption) | rfl); (case hk => first | exact off_s | exact off_r (by decide) | exact off_r lz); (first | exact part_map rfl rfl lz | exact part_whole rfl lz | exact rfl)) | (apply part_r; (case hl => first | exact (List.length_map _).trans (by assumption) | ((try apply (List.length_map _).trans); (repeat apply List.length_set.trans); assumption) | rfl); (case hk => first | exact off_s | exact off_r (by decide) | exact off_r lz); first | (apply part_l; (first | exact part_map rfl rfl lz | exact part_whole rfl lz | exact rfl)) | (apply part_r; (case hl => first | exact (List.length_map _).trans (by assumption) | ((try apply (List.length_map _).trans); (repeat apply List.length_set.trans); assumption) | rfl); (case hk => first | exact off_s | exact off_r (by decide) | exact off_r lz); (first | exact part_map rfl rfl lz | exact part_whole rfl lz | exact rfl)) | (first | exact part_map rfl rfl lz | exact part_whole rfl lz | exact rfl)) | exact rfl))) | exact rfl) (by first | (with_reducible refine res1_tmp ?_; exact rfl) | ((with_reducible apply res1_cell); (case h1 => exact rfl); (case h2 => exact rfl); (case h3 => exact rfl); (case h4 => (first | exact part_map rfl rfl lz | exact part_whole rfl lz | (apply ld1 <;> first | exact rfl | exact lz) | (apply ld2 <;> first | exact rfl | exact lz) | (apply ld3 <;> first | exact rfl | exact lz) | (apply ld4 <;> first | exact rfl | exact lz) | (apply ld5 <;> first | exact rfl | exact lz) | (apply ld6 <;> first | exact rfl | exact lz) | (apply ld7 <;> first | exact rfl | exact lz) | (apply part_l; (first | exact part_map rfl rfl lz | exact part_whole rfl lz | exact rfl)) | (apply part_l; apply part_r; (case hl => first | exact (List.length_map _).trans (by assumption) | ((try apply (List.length_map _).trans); (repeat apply List.length_set.trans); assumption) | rfl); (case hk => first | exact off_s | exact off_r (by decide) | exact off_r lz); (first | exact part_map rfl rfl lz | exact part_whole rfl lz | exact rfl)) | (apply part_r; (case hl => first | exact (List.length_map _).trans (by assumption) | ((try apply (List.length_map _).trans); (repeat apply List.length_set.trans); assumption) | rfl); (case hk => first | exact off_s | exact off_r (by decide) | exact off_r lz); first | (apply part_l; (first | exact part_map rfl rfl lz | exact part_whole rfl lz | exact rfl)) | (apply part_r; (case hl => first | exact (List.length_map _).trans (by assumption) | ((try apply (List.length_map _).trans); (repeat apply List.length_set.trans); assumption) | rfl); (case hk => first | exact off_s | exact off_r (by decide) | exact off_r lz); (first | exact part_map rfl rfl lz | exact part_whole rfl lz | exact rfl)) | (first | exact part_map rfl rfl lz | exact part_whole rfl lz | exact rfl)) | exact rfl))) | exact rfl) (by first | (with_reducible refine res1_tmp ?_; exact rfl) | ((with_reducible apply res1_cell); (case h1 => exact rfl); (case h2 => exact rfl); (case h3 => exact rfl); (case h4 => (first | exact part_map rfl rfl lz | exact part_whole rfl lz | (apply ld1 <;> first | exact rfl | exact lz) | (apply ld2 <;> first | exact rfl | exact lz) | (apply ld3 <;> first | exact rfl | exact lz) | (apply ld4 <;> first | exact rfl | exact lz) | (apply ld5 <;> first | exact rfl | exact lz) | (apply ld6 <;> first | exact rfl | exact lz) | (apply ld7 <;> first | exact rfl | exact lz) | (apply part_l; (first | exact part_map rfl rfl lz | exact part_whole rfl lz | exact rfl)) | (apply part_l; apply part_r; (case hl => first | exact (List.length_map _).trans (by assumption) | ((try apply (List.length_map _).trans); (repeat apply List.length_set.trans); assumption) | rfl); (case hk => first | exact off_s | exact off_r (by decide) | exact off_r lz); (first | exact part_map rfl rfl lz | exact part_whole rfl lz | exact rfl)) | (apply part_r; (case hl => first | exact (List.length_map _).trans (by assumption) | ((try apply (List.length_map _).trans); (repeat apply List.length_set.trans); assumption) | rfl); (case hk => first | exact off_s | exact off_r (by decide) | exact off_r lz); first | (apply part_l; (first | exact part_map rfl rfl lz | exact part_whole rfl lz | exact rfl)) | (apply part_r; (case hl => first | exact (List.length_map _).trans (by assumption) | ((try apply (List.length_map _).trans); (repeat apply List.length_set.trans); assumption) | rfl); (case hk => first | exact off_s | exact off_r (by decide) | exact off_r lz); (first | exact part_map rfl rfl lz | exact part_whole rfl lz | exact rfl)) | (first | exact part_map rfl rfl lz | exact part_whole rfl lz | exact rfl)) | exact rfl))) | exact rfl) | exact rfl); first | (apply LFU.eqV; (case hr => first | exact rfl | (simp only [V.cells, refsE, refsM, V.refs, V.refs.go, V.pure, V.pure.go, pure_mapq, pure_mapb, pure_mapu, refs_mapq, refs_mapb, refs_mapu, refs_append, Bool.and_true, Bool.true_and, Bool.and_self] <;> exact rfl) | (simp only [V.cells, refsE, refsM, V.refs, V.refs.go, V.pure, V.pure.go, pure_mapq, pure_mapb, pure_mapu, refs_mapq, refs_mapb, refs_mapu, refs_append, Bool.and_true, Bool.true_and, Bool.and_self, hrf] <;> exact rfl) | (simp only [V.cells, refsE, refsM, V.refs, V.refs.go, V.pure, V.pure.go, pure_mapq, pure_mapb, pure_mapu, refs_mapq, refs_mapb, refs_mapu, refs_append, Bool.and_true, Bool.true_and, Bool.and_self, hrf, hrg] <;> exact rfl) | exact lz); (case hv => first | with_reducible exact rfl | assumption | exact rfl | exact hv1 | exact hv2 | exact bz)) | (apply LFU.cvV false; (case hr => first | exact rfl | (simp only [V.cells, refsE, refsM, V.refs, V.refs.go, V.pure, V.pure.go, pure_mapq, pure_mapb, pure_mapu, refs_mapq, refs_mapb, refs_mapu, refs_append, Bool.and_true, Bool.true_and, Bool.and_self] <;> exact rfl) | (simp only [V.cells, refsE, refsM, V.refs, V.refs.go, V.pure, V.pure.go, pure_mapq, pure_mapb, pure_mapu, refs_mapq, refs_mapb, refs_mapu, refs_append, Bool.and_true, Bool.true_and, Bool.and_self, hrf] <;> exact rfl) | (simp only [V.cells, refsE, refsM, V.refs, V.refs.go, V.pure, V.pure.go, pure_mapq, pure_mapb, pure_mapu, refs_mapq, refs_mapb, refs_mapu, refs_append, Bool.and_true, Bool.true_and, Bool.and_self, hrf, hrg] <;> exact rfl) | exact lz); (case hv => first | with_reducible exact rfl | assumption | exact rfl | exact hv1 | exact hv2 | exact bz)) | (apply LFU.cvV true; (case hr => first | exact rfl | (simp only [V.cells, refsE, refsM, V.refs, V.refs.go, V.pure, V.pure.go, pure_mapq, pure_mapb, pure_mapu, refs_mapq, refs_mapb, refs_mapu, refs_append, Bool.and_true, Bool.true_and, Bool.and_self] <;> exact rfl) | (simp only [V.cells, refsE, refsM, V.refs, V.refs.go, V.pure, V.pure.go, pure_mapq, pure_mapb, pure_mapu, refs_mapq, refs_mapb, refs_mapu, refs_append, Bool.and_true, Bool.true_and, Bool.and_self, hrf] <;> exact rfl) | (simp only [V.cells, refsE, refsM, V.refs, V.refs.go, V.pure, V.pure.go, pure_mapq, pure_mapb, pure_mapu, refs_mapq, refs_mapb, refs_mapu, refs_append, Bool.and_true, Bool.true_and, Bool.and_self, hrf, hrg] <;> exact rfl) | exact lz); (case hv => first | with_reducible exact rfl | assumption | exact rfl | exact hv1 | exact hv2 | exact bz)) | (apply LFU.memV; (case hm => (repeat (first | exact True.intro | refine And.intro rfl ?_))); (case hr => first | exact rfl | (simp only [V.cells, refsE, refsM, V.refs, V.refs.go, V.pure, V.pure.go, pure_mapq, pure_mapb, pure_mapu, refs_mapq, refs_mapb, refs_mapu, refs_append, Bool.and_true, Bool.true_and, Bool.and_self] <;> exact rfl) | (simp only [V.cells, refsE, refsM, V.refs, V.refs.go, V.pure, V.pure.go, pure_mapq, pure_mapb, pure_mapu, refs_mapq, refs_mapb, refs_mapu, refs_append, Bool.and_true, Bool.true_and, Bool.and_self, hrf] <;> exact rfl) | (simp only [V.cells, refsE, refsM, V.refs, V.refs.go, V.pure, V.pure.go, pure_mapq, pure_mapb, pure_mapu, refs_mapq, refs_mapb, refs_mapu, refs_append, Bool.and_true, Bool.true_and, Bool.and_self, hrf, hrg] <;> exact rfl) | exact lz); (case hv => first | with_reducible exact rfl | assumption | exact rfl | exact hv1 | exact hv2 | exact bz)) | (apply LFU.memC (fun _ => false) false; (case hm => (repeat (first | exact True.intro | refine And.intro rfl ?_))); (case hr => first | exact rfl | (simp only [V.cells, refsE, refsM, V.refs, V.refs.go, V.pure, V.pure.go, pure_mapq, pure_mapb, pure_mapu, refs_mapq, refs_mapb, refs_mapu, refs_append, Bool.and_true, Bool.true_and, Bool.and_self] <;> exact rfl) | (simp only [V.cells, refsE, refsM, V.refs, V.refs.go, V.pure, V.pure.go, pure_mapq, pure_mapb, pure_mapu, refs_mapq, refs_mapb, refs_mapu, refs_append, Bool.and_true, Bool.true_and, Bool.and_self, hrf] <;> exact rfl) | (simp only [V.cells, refsE, refsM, V.refs, V.refs.go, V.pure, V.pure.go, pure_mapq, pure_mapb, pure_mapu, refs_mapq, refs_mapb, refs_mapu, refs_append, Bool.and_true, Bool.true_and, Bool.and_self, hrf, hrg] <;> exact rfl) | exact lz); (case hv => first | with_reducible exact rfl | assumption | exact rfl | exact hv1 | exact hv2 | exact bz)) | (apply LFU.memC (fun _ => false) true; (case hm => (repeat (first | exact True.intro | refine And.intro rfl ?_))); (case hr => first | exact rfl | (simp only [V.cells, refsE, refsM, V.refs, V.refs.go, V.pure, V.pure.go, pure_mapq, pure_mapb, pure_mapu, refs_mapq, refs_mapb, refs_mapu, refs_append, Bool.and_true, Bool.true_and, Bool.and_self] <;> exact rfl) | (simp only [V.cells, refsE, refsM, V.refs, V.refs.go, V.pure, V.pure.go, pure_mapq, pure_mapb, pure_mapu, refs_mapq, refs_mapb, refs_mapu, refs_append, Bool.and_true, Bool.true_and, Bool.and_self, hrf] <;> exact rfl) | (simp only [V.cells, refsE, refsM, V.refs, V.refs.go, V.pure, V.pure.go, pure_mapq, pure_mapb, pure_mapu, refs_mapq, refs_mapb, refs_mapu, refs_append, Bool.and_true, Bool.true_and, Bool.and_self, hrf, hrg] <;> exact rfl) | exact lz); (case hv => first | with_reducible exact rfl | assumption | exact rfl | exact hv1 | exact hv2 | exact bz))) | ((with_reducible apply LRet.panE); (case hm => (repeat (first | exact True.intro | refine And.intro rfl ?_))); (case hr => first | exact rfl | (simp only [V.cells, refsE, refsM, V.refs, V.refs.go, V.pure, V.pure.go, pure_mapq, pure_mapb, pure_mapu, refs_mapq, refs_mapb, refs_mapu, refs_append, Bool.and_true, Bool.true_and, Bool.and_self] <;> exact rfl) | (simp only [V.cells, refsE, refsM, V.refs, V.refs.go, V.pure, V.pure.go, pure_mapq, pure_mapb, pure_mapu, refs_mapq, refs_mapb, refs_mapu, refs_append, Bool.and_true, Bool.true_and, Bool.and_self, hrf] <;> exact rfl) | (simp only [V.cells, refsE, refsM, V.refs, V.refs.go, V.pure, V.pure.go, pure_mapq, pure_mapb, pure_mapu, refs_mapq, refs_mapb, refs_mapu, refs_append, Bool.and_true, Bool.true_and, Bool.and_self, hrf, hrg] <;> exact rfl) | exact lz); (case hv => exact rfl)) | (apply DR.skip; (case hg => first | exact rfl | exact gd_n rfl rfl rfl (by assumption)); (case hds => exact rfl); (case hd => exact rfl)) | (apply DR.skipz; (case hg => first | exact rfl | exact gd_n rfl rfl rfl (by assumption)); (case hds => exact rfl)) | (apply DR.gs; (case h1 => exact rfl); (case h2 => exact rfl); (case h3 => exact rfl); (case _hn => (fail_if_success exact fr1 rfl); (fail_if_success exact fr2 rfl); (fail_if_success exact fr1 (by assumption)); (fail_if_success exact fr2 (by assumption)); exact trivial)) | exact lz | fail)); all_goals first | exact a1.out | exact a2.out | exact a3.out) : G := h ⟨h1⟩ ⟨h2⟩ ⟨h3⟩
end Lf
end Go.Proofs.Ytgioofknlbdfjaa

/- Numbers by their digits, the greatest first: lists without noughts ahead are one for each number, and are ordered as the numbers are. Plain Lean. -/
namespace Go.Proofs.Ytgioofknlbdfjaa
namespace Ps
def pos (B : Nat) : List Nat → Nat
  | [] => 0
  | a :: l => a * B ^ l.length + pos B l
def NL (l : List Nat) : Prop := l.head? ≠ some 0
def lexN : List Nat → List Nat → Bool
  | a :: l, b :: m => decide (a < b) || (decide (a = b) && lexN l m)
  | [], _ :: _ => true
  | _, [] => false
theorem pos_append (B : Nat) (l m : List Nat) : pos B (l ++ m) = pos B l * B ^ m.length + pos B m := by
  induction l with
  | nil => simp [pos]
  | cons a l ih =>
    simp only [List.cons_append, pos, ih, List.length_append, Nat.pow_add, Nat.add_mul, Nat.mul_assoc, Nat.add_assoc]
theorem pos_lt {B : Nat} {l : List Nat} (h : ∀ a ∈ l, a < B) : pos B l < B ^ l.length := by
  induction l with
  | nil => simp [pos]
  | cons a l ih =>
    have h1 := ih fun x hx => h x (by simp [hx])
    have h2 : (a + 1) * B ^ l.length ≤ B * B ^ l.length := Nat.mul_le_mul_right _ (h a (by simp))
    simp only [pos, List.length_cons, Nat.pow_succ]
    rw [Nat.mul_comm (B ^ l.length) B]
    rw [Nat.add_mul, Nat.one_mul] at h2
    omega
theorem pos_ge {B : Nat} {a : Nat} {l : List Nat} (h : a ≠ 0) : B ^ l.length ≤ pos B (a :: l) := by
  simp only [pos]
  have : 1 * B ^ l.length ≤ a * B ^ l.length := Nat.mul_le_mul_right _ (by omega)
  omega
theorem pos_lex {B : Nat} : ∀ {l m : List Nat}, l.length = m.length → (∀ a ∈ l, a < B) → (∀ a ∈ m, a < B) → (pos B l < pos B m ↔ lexN l m = true)
  | [], [], _, _, _ => by simp [pos, lexN]
  | a :: l, b :: m, hl, h1, h2 => by
    have hl' : l.length = m.length := by simpa using hl
    have ih := pos_lex hl' (fun x hx => h1 x (by simp [hx])) (fun x hx => h2 x (by simp [hx]))
    have k1 := pos_lt (B := B) (l := l) fun x hx => h1 x (by simp [hx])
    have k2 := pos_lt (B := B) (l := m) fun x hx => h2 x (by simp [hx])
    simp only [pos, lexN, Bool.or_eq_true, Bool.and_eq_true, decide_eq_true_eq, ← ih]
    rw [← hl'] at k2 ⊢
    generalize B ^ l.length = p at *
    rcases Nat.lt_trichotomy a b with h | h | h
    · have := Nat.mul_le_mul_right p (Nat.succ_le_of_lt h)
      rw [Nat.succ_mul] at this
      exact ⟨fun _ => .inl h, fun _ => by omega⟩
    · subst h
      exact ⟨fun k => .inr ⟨rfl, by omega⟩, fun k => by rcases k with k | k <;> omega⟩
    · have := Nat.mul_le_mul_right p (Nat.succ_le_of_lt h)
      rw [Nat.succ_mul] at this
      exact ⟨fun k => by omega, fun k => by rcases k with k | k <;> omega⟩
  | [], _ :: _, hl, _, _ => by simp at hl
  | _ :: _, [], hl, _, _ => by simp at hl
theorem pos_len {B : Nat} {l m : List Nat} (hB : 0 < B) (hl : l.length < m.length) (h1 : ∀ a ∈ l, a < B) (hm : NL m) : pos B l < pos B m := by
  cases m with
  | nil => simp at hl
  | cons b m =>
    have h2 : b ≠ 0 := fun e => hm (by simp [e])
    have := pos_ge (B := B) (l := m) h2
    have k := pos_lt h1
    have : B ^ l.length ≤ B ^ m.length := Nat.pow_le_pow_right hB (by simp at hl; omega)
    omega
theorem pos_order {B : Nat} {l m : List Nat} (hB : 0 < B) (h1 : ∀ a ∈ l, a < B) (h2 : ∀ a ∈ m, a < B) (k1 : NL l) (k2 : NL m) : pos B l < pos B m ↔ l.length < m.length ∨ (l.length = m.length ∧ lexN l m = true) := by
  rcases Nat.lt_trichotomy l.length m.length with h | h | h
  · exact ⟨fun _ => .inl h, fun _ => pos_len hB h h1 k2⟩
  · rw [pos_lex h h1 h2]
    exact ⟨fun k => .inr ⟨h, k⟩, fun k => by rcases k with k | k <;> first | omega | exact k.2⟩
  · have := pos_len hB h h2 k1
    exact ⟨fun k => by omega, fun k => by omega⟩
theorem lexN_irr (l : List Nat) : lexN l l = false := by induction l <;> simp [lexN, *]
theorem lexN_eq : ∀ {l m : List Nat}, l.length = m.length → lexN l m = false → lexN m l = false → l = m
  | [], [], _, _, _ => rfl
  | a :: l, b :: m, hl, h1, h2 => by
    simp only [lexN, Bool.or_eq_false_iff, Bool.and_eq_false_iff, decide_eq_false_iff_not] at h1 h2
    obtain rfl : a = b := by omega
    rw [lexN_eq (l := l) (m := m) (by simpa using hl) (by rcases h1.2 with h | h; exact absurd rfl h; exact h) (by rcases h2.2 with h | h; exact absurd rfl h; exact h)]
  | [], _ :: _, hl, _, _ => by simp at hl
  | _ :: _, [], hl, _, _ => by simp at hl
theorem pos_inj {B : Nat} {l m : List Nat} (hB : 0 < B) (h1 : ∀ a ∈ l, a < B) (h2 : ∀ a ∈ m, a < B) (k1 : NL l) (k2 : NL m) (h : pos B l = pos B m) : l = m := by
  have e1 := pos_order hB h1 h2 k1 k2
  have e2 := pos_order hB h2 h1 k2 k1
  have n1 : ¬ (l.length < m.length ∨ (l.length = m.length ∧ lexN l m = true)) := fun h' => by have := e1.2 h'; omega
  have n2 : ¬ (m.length < l.length ∨ (m.length = l.length ∧ lexN m l = true)) := fun h' => by have := e2.2 h'; omega
  have hl : l.length = m.length := by omega
  refine lexN_eq hl ?_ ?_
  · rw [← Bool.not_eq_true]; exact fun h' => n1 (.inr ⟨hl, h'⟩)
  · rw [← Bool.not_eq_true]; exact fun h' => n2 (.inr ⟨hl.symm, h'⟩)
/-- Without noughts ahead. -/
def strip (l : List UInt8) : List UInt8 := l.dropWhile (· == 0)
def nat8 (l : List UInt8) : List Nat := l.map UInt8.toNat
theorem nat8_lt (l : List UInt8) : ∀ a ∈ nat8 l, a < 256 := fun a ha => by
  obtain ⟨x, _, rfl⟩ := List.mem_map.1 ha
  exact x.toNat_lt
theorem nat8_inj {l m : List UInt8} (h : nat8 l = nat8 m) : l = m := by
  induction l generalizing m with
  | nil => cases m with
    | nil => rfl
    | cons _ _ => simp [nat8] at h
  | cons a l ih => cases m with
    | nil => simp [nat8] at h
    | cons b m =>
      simp only [nat8, List.map_cons, List.cons.injEq] at h
      rw [UInt8.toNat_inj.1 h.1, ih h.2]
theorem strip_nl (l : List UInt8) : NL (nat8 (strip l)) := by
  unfold strip
  induction l with
  | nil => simp [NL, nat8]
  | cons a l ih =>
    rw [List.dropWhile_cons]
    split
    · exact ih
    · rename_i h
      intro e
      simp only [nat8, List.map_cons, List.head?_cons, Option.some.injEq] at e
      apply h
      have : a = 0 := UInt8.toNat_inj.1 (by rw [e]; rfl)
      simp [this]
theorem strip_pos (B : Nat) (l : List UInt8) : pos B (nat8 (strip l)) = pos B (nat8 l) := by
  unfold strip
  induction l with
  | nil => rfl
  | cons a l ih =>
    rw [List.dropWhile_cons]
    split
    · rename_i h
      have : a = 0 := by simpa using h
      subst this
      rw [ih]
      simp [nat8, pos]
    · rfl
theorem strip_len (l : List UInt8) : (strip l).length ≤ l.length := (List.dropWhile_sublist _).length_le
theorem nl_iff (l : List UInt8) : NL (nat8 l) ↔ l.head? ≠ some 0 := by
  cases l with
  | nil => simp [NL, nat8]
  | cons a l =>
    simp only [NL, nat8, List.map_cons, List.head?_cons, ne_eq, Option.some.injEq]
    constructor
    · intro h e; apply h; rw [e]; rfl
    · intro h e; apply h; exact UInt8.toNat_inj.1 (by rw [e]; rfl)
theorem strip_id {l : List UInt8} (h : l.head? ≠ some 0) : strip l = l := by
  cases l with
  | nil => rfl
  | cons a l =>
    unfold strip
    rw [List.dropWhile_cons, if_neg]
    intro e
    apply h
    have : a = 0 := by simpa using e
    rw [this]; rfl
/-- The number of a list of bytes. -/
def beN (l : List UInt8) : Nat := pos 256 (nat8 l)
theorem beN_lt (l : List UInt8) : beN l < 256 ^ l.length := by
  have := pos_lt (nat8_lt l)
  rwa [show (nat8 l).length = l.length by simp [nat8]] at this
theorem beN_strip (l : List UInt8) : beN (strip l) = beN l := strip_pos 256 l
theorem beN_inj {l m : List UInt8} (k1 : l.head? ≠ some 0) (k2 : m.head? ≠ some 0) (h : beN l = beN m) : l = m :=
  nat8_inj (pos_inj (by decide) (nat8_lt l) (nat8_lt m) ((nl_iff l).2 k1) ((nl_iff m).2 k2) h)
theorem strip_head (l : List UInt8) : (strip l).head? ≠ some 0 := (nl_iff _).1 (strip_nl l)
theorem strip_of {l m : List UInt8} (k : m.head? ≠ some 0) (h : beN l = beN m) : strip l = m := beN_inj (strip_head l) k ((beN_strip l).trans h)
end Ps
end Go.Proofs.Ytgioofknlbdfjaa

/- A region that draws its order, as in XRegion; what makes memory may turn the blocks that are not kept. -/
namespace Go.Proofs.Ytgioofknlbdfjaa
open Go.RowKit
namespace Rf
open Rg (noCall noCall_spec np wp_monoQ wpOp_monoQ Closed Closed.step waits waitsB waits_listed nth pick freeW chkS chkT chk planSize nth_of)
/-- A later world: every kept block that was there is as it was. -/
structure Ext (F : Nat → Prop) (w w' : World) : Prop where
  size : w.heap.size ≤ w'.heap.size
  block : ∀ k, k < w.heap.size → F k → w'.heap[k]? = w.heap[k]?
theorem Ext.refl {F : Nat → Prop} (w : World) : Ext F w w := ⟨Nat.le_refl _, fun _ _ _ => rfl⟩
theorem Ext.trans {F : Nat → Prop} {a b c : World} (h : Ext F a b) (k : Ext F b c) : Ext F a c := ⟨Nat.le_trans h.size k.size, fun i hi hF => (k.block i (Nat.lt_of_lt_of_le hi h.size) hF).trans (h.block i hi hF)⟩
theorem Ext.of {F : Nat → Prop} {w w' : World} (h : Rg.Ext w w') : Ext F w w' := ⟨h.size, fun k hk _ => h.block k hk⟩
theorem Ext.setCell {F : Nat → Prop} (w : World) (p : Addr) (u : Value) (h : ¬ F p.block) : Ext F w (w.setCell p u) :=
  ⟨by simp, fun k _ hF => Below.heap_setCell w p u k (fun e => h (e ▸ hF))⟩
theorem Ext.setRow {F : Nat → Prop} (w : World) (g : Nat) (cs : Array Value) (h : ¬ F g) : Ext F w (w.setRow g cs) :=
  ⟨by simp, fun k _ hF => setRow_other w g k cs (fun e => h (e ▸ hF))⟩
/-- The class of the later worlds, in the spelling that the quiet walk reads. -/
structure Lt (F : Nat → Prop) (w : World) where
  v : World
  ext : Ext F w v
instance (F : Nat → Prop) (w : World) : Nonempty (Lt F w) := ⟨⟨w, Ext.refl w⟩⟩
def Cls (F : Nat → Prop) (w : World) (w' : World) : Prop := ∃ x : Lt F w, w' = x.v
theorem Cls.mk {F : Nat → Prop} {w w' : World} (h : Ext F w w') : Cls F w w' := ⟨⟨w', h⟩, rfl⟩
@[go_sem] theorem cls_iff (F : Nat → Prop) (w w' : World) : Cls F w w' ↔ ∃ x : Lt F w, w' = x.v := Iff.rfl
/-- A cell of a kept block is there in every later world. -/
theorem Ext.cell {F : Nat → Prop} {w w' : World} (h : Ext F w w') {a : Addr} {v : Value} (hc : w.cell? a = some v) (hF : F a.block) : w'.cell? a = some v := by
  rw [World.cell?_of_block (w := w) (h.block a.block (World.block_lt_of_cell? w a hc) hF)]; exact hc
theorem later {F : Nat → Prop} {w : World} {a : Addr} {v : Value} (hc : w.cell? a = some v) (hF : F a.block) : ∀ x : Lt F w, x.v.cell? a = some v := fun x => x.ext.cell hc hF
theorem laterB {F : Nat → Prop} {w : World} {g : Nat} {o : Obj} (hc : w.heap[g]? = some o) (hF : F g) : ∀ x : Lt F w, x.v.heap[g]? = some o := fun x => by
  rw [x.ext.block g (Array.getElem?_eq_some_iff.1 hc).1 hF]; exact hc

section
variable {F : Nat → Prop} {P : Program} {ops : Array Oper} {Q : Exit → Act → World → Prop} {md : Region.Mode}

/-- In every later world operation 'o' leaves 'v', and the world as it is. -/
def Yld (F : Nat → Prop) (P : Program) (ops : Array Oper) (w : World) (o : Oper) (v : Value) (a : Act) : Prop :=
  (Region.wanted o (yielded ops a.tmps) = true ∧ ∀ w', Ext F w w' → (execOp a.eval o).run P w' = .ok (.value v) w' ∨ ((execOp a.eval o).run P w' = .ok .skip w' ∧ v = undef)) ∨
  (Region.wanted o (yielded ops a.tmps) = false ∧ v = undef)

theorem Yld.later {w w1 : World} {o : Oper} {v : Value} {a : Act} (h : Yld F P ops w o v a) (he : Ext F w w1) : Yld F P ops w1 o v a := by
  rcases h with ⟨hw, h⟩ | h
  · exact .inl ⟨hw, fun w' hw' => h w' (he.trans hw')⟩
  · exact .inr h

theorem Yld.of_same {w : World} {o : Oper} {v : Value} {a a' : Act} (hy : Yld F P ops w o v a) (he : execOp a'.eval o = execOp a.eval o)
    (hw : Region.wanted o (yielded ops a'.tmps) = Region.wanted o (yielded ops a.tmps)) : Yld F P ops w o v a' := by
  unfold Yld at *
  rw [he, hw]
  exact hy

theorem Yld.wpOp {w : World} {i : Nat} {o : Oper} {v : Value} {a : Act} (hi : ops[i]? = some o) (hy : Yld F P ops w o v a) {K : Act → World → Prop} (h : K (a.put o.dst v) w) : wpOp P ops Q i K a w := by
  unfold Go.wpOp
  simp only [hi]
  rcases hy with ⟨hw, hv⟩ | ⟨hw, rfl⟩
  · rw [if_pos hw]
    refine .inl ?_
    unfold Oper.wp
    rcases hv w (Ext.refl w) with hx | ⟨hx, rfl⟩
    · rw [hx]; exact h
    · rw [hx]; exact h
  · simp only [hw, Bool.false_eq_true, if_false]; exact h

theorem yld_of_quiet {w : World} {o : Oper} {a : Act} {K : Act → Prop} (hn : noCall o.op = true)
    (h : if Region.wanted o (yielded ops a.tmps) then o.quiet P a (Cls F w) K else K (a.put o.dst undef)) : ∃ v, Yld F P ops w o v a ∧ K (a.put o.dst v) := by
  by_cases hw : Region.wanted o (yielded ops a.tmps) = true
  · simp only [hw, if_true] at h
    obtain ⟨v, h1, h2⟩ := h
    refine ⟨v, .inl ⟨hw, fun w' hw' => ?_⟩, h2⟩
    have h3 := h1 w' (Cls.mk hw')
    unfold Oper.quietAt at h3
    have hne := fun f args w'' => noCall_spec (P := P) hn a.eval w' f args w''
    generalize (execOp a.eval o).run P w' = r at *
    cases r with
    | halt x w'' => simp only [Oper.quietUpon] at h3
    | ok n w'' =>
      cases n <;> simp only [Oper.quietUpon] at h3
      case value u => obtain ⟨rfl, rfl⟩ := h3; exact .inl rfl
      case skip => obtain ⟨rfl, rfl⟩ := h3; exact .inr ⟨rfl, rfl⟩
      case enter f args => exact absurd rfl (hne f args w'')
  · simp only [hw] at h
    exact ⟨undef, .inr ⟨by simpa using hw, rfl⟩, h⟩

/-- Whatever order is picked; what is not of the tail leaves a later world than 'wb'. -/
def anyE (F : Nat → Prop) (P : Program) (md : Region.Mode) (ops : Array Oper) (Q : Exit → Act → World → Prop) (tl : List Nat) (wb : World) : Nat → Array Bool → Act → World → Prop
  | 0, listed, a, w => Region.ready md ops listed = [] ∧ Q .normal a w
  | fuel + 1, listed, a, w =>
    (Region.ready md ops listed = [] → Q .normal a w) ∧
    ∀ i ∈ Region.ready md ops listed, wpOp P ops (if tl.contains i then Q else np Q) i (fun a' w' => (tl.contains i = false → Ext F wb w') ∧ anyE F P md ops Q tl wb fuel (listed.setIfInBounds i true) a' w') a w

theorem anyE_any {tl : List Nat} {wb : World} : ∀ (fuel : Nat) (listed : Array Bool) (a : Act) (w : World), anyE F P md ops Q tl wb fuel listed a w → wpAny P md ops Q fuel listed a w
  | 0, _, _, _, h => h
  | fuel + 1, _, _, _, h => ⟨h.1, fun i hi => wpOp_monoQ (fun c a w hq => by split at hq; exact hq; exact hq.2) (fun a w hq => by split at hq; exact hq; exact hq.2) (wpOp_mono (fun a' w' h' => anyE_any fuel _ a' w' h'.2) (h.2 i hi))⟩

theorem anyE_base {tl : List Nat} {wb wb' : World} (he : Ext F wb wb') : ∀ (fuel : Nat) (listed : Array Bool) (a : Act) (w : World), anyE F P md ops Q tl wb' fuel listed a w → anyE F P md ops Q tl wb fuel listed a w
  | 0, _, _, _, h => h
  | fuel + 1, _, _, _, h => ⟨h.1, fun i hi => wpOp_mono (fun a' w' h' => ⟨fun ht => he.trans (h'.1 ht), anyE_base he fuel _ a' w' h'.2⟩) (h.2 i hi)⟩

/-- Taken first: a reading operation. -/
theorem anyE_first {tl : List Nat} {wb : World} {i : Nat} {oi : Oper} {v : Value} {W : Array Nat} (hW : waitsB md ops W = true) (hi : ops[i]? = some oi)
    (hsel : ∀ (j : Nat) (o : Oper) cs b, ops[j]? = some o → o.op ≠ .select cs b) :
    ∀ (fuel : Nat) (listed : Array Bool) (a : Act) (w : World), Closed md ops listed → Ext F wb w →
      (∀ j oj, ops[j]? = some oj → j ≠ i → listed.getD j true = false → waits W j i = true ∨ (oi.apart ops oj = true ∧ tl.contains j = false)) →
      i ∈ Region.ready md ops listed → Yld F P ops wb oi v a →
      anyE F P md ops Q tl wb fuel (listed.setIfInBounds i true) (a.put oi.dst v) w → anyE F P md ops Q tl wb (fuel + 1) listed a w := by
  intro fuel
  induction fuel with
  | zero =>
    intro listed a w hc hwb hfree hr hy H
    refine ⟨fun h => (by rw [h] at hr; cases hr), fun j hj => ?_⟩
    by_cases hji : j = i
    · subst hji; exact (hy.later hwb).wpOp hi ⟨fun _ => hwb, H⟩
    · have := ready_mono hj hji
      rw [H.1] at this
      cases this
  | succ fuel ih =>
    intro listed a w hc hwb hfree hr hy H
    refine ⟨fun h => (by rw [h] at hr; cases hr), fun j hj => ?_⟩
    by_cases hji : j = i
    · subst hji; exact (hy.later hwb).wpOp hi ⟨fun _ => hwb, H⟩
    · have h1 := H.2 j (ready_mono hj hji)
      obtain ⟨hjun, oj, hoj, hall⟩ := mem_ready.1 hj
      have hilt : i < ops.size := (Array.getElem?_eq_some_iff.1 hi).1
      have hiun : listed.getD i false = false := by
        have h0 := (mem_ready.1 hr).1
        rcases Nat.lt_or_ge i listed.size with h' | h'
        · simpa [h'] using h0
        · simp [Array.getElem?_eq_none h']
      have hap : oi.apart ops oj = true ∧ tl.contains j = false := by
        rcases hfree j oj hoj hji hjun with hw | h
        · have := waits_listed hW hc hilt j j oj (Nat.le_refl _) hoj hall hw
          rw [hiun] at this
          cases this
        · exact h
      obtain ⟨p1, p2, p3⟩ := Oper.apart_spec hap.1
      have hsi := fun cs b => hsel i oi cs b hi
      have hsj := fun cs b => hsel j oj cs b hoj
      have keep : ∀ (a : Act), Yld F P ops wb oi v a → ∀ u, Yld F P ops wb oi v (a.put oj.dst u) := fun a hy u =>
        hy.of_same (execOp_put oi hsi a oj.dst u p3) (wanted_put oi a oj.dst u p3)
      have keepD : ∀ d, Yld F P ops wb oi v { a with defers := d :: a.defers } := fun d => hy.of_same rfl rfl
      have hfree' : ∀ k ok, ops[k]? = some ok → k ≠ i → (listed.setIfInBounds j true).getD k true = false → waits W k i = true ∨ (oi.apart ops ok = true ∧ tl.contains k = false) := fun k ok hk hki hun => by
        refine hfree k ok hk hki ?_
        by_cases hjk : j = k
        · subst hjk; exact hjun
        · rw [getD_set_ne true hjk] at hun; exact hun
      have fin : ∀ (a' : Act) (w' : World), Yld F P ops wb oi v a' → Ext F wb w' → anyE F P md ops Q tl wb fuel ((listed.setIfInBounds i true).setIfInBounds j true) (a'.put oi.dst v) w' →
          (True → Ext F wb w') ∧ anyE F P md ops Q tl wb (fuel + 1) (listed.setIfInBounds j true) a' w' := fun a' w' hy' he' h' =>
        ⟨fun _ => he', ih _ a' w' (hc.step hj) he' hfree' (ready_mono hr (Ne.symm hji)) hy' (by rw [Array.setIfInBounds_comm _ _ hji]; exact h')⟩
      rw [hap.2] at h1 ⊢
      simp only [Bool.false_eq_true, if_false] at h1 ⊢
      unfold wpOp at *
      simp only [hoj] at *
      rw [wanted_put oj a oi.dst v p1] at h1
      split
      · rename_i hw
        simp only [hw, if_true] at h1
        rcases h1 with h1 | ⟨hasks, hlets⟩
        case inr => exact .inr ⟨by unfold Oper.asks at *; rw [execOp_put oj hsj a oi.dst v p1] at hasks; exact hasks, hlets⟩
        refine .inl ?_
        unfold Oper.wp at *
        rw [execOp_put oj hsj a oi.dst v p1] at h1
        generalize (execOp a.eval oj).run P w = r at *
        cases r with
        | ok n w' =>
          cases n <;> simp only [Oper.upon] at h1 ⊢
          case value u => exact fin _ _ (keep a hy u) (h1.1 trivial) (by rw [← Act.put_comm a v u p2]; exact h1.2)
          case skip => exact fin _ _ (keep a hy _) (h1.1 trivial) (by rw [← Act.put_comm a v undef p2]; exact h1.2)
          case defer d =>
            refine fin _ _ (keep _ (keepD d) _) (h1.1 trivial) ?_
            rw [← Act.put_comm _ v undef p2, ← Act.put_defers]
            exact h1.2
          case enter f args =>
            refine Calls.mono h1 fun e w'' he => ?_
            cases e with
            | returned u => exact fin _ _ (keep a hy u) (he.1 trivial) (by rw [← Act.put_comm a v u p2]; exact he.2)
            | panicked c => exact absurd rfl (he.1 c)
            | outgrown => exact he
          case row row args => exact Rows.mono h1 fun u w'' he => fin _ _ (keep a hy u) (he.1 trivial) (by rw [← Act.put_comm a v u p2]; exact he.2)
        | halt x w' =>
          cases x <;> simp only [Oper.upon] at h1 ⊢
          case panic u => exact absurd rfl (h1.1 _)
      · rename_i hw
        simp only [hw] at h1
        exact fin _ _ (keep a hy _) (h1.1 trivial) (by rw [← Act.put_comm a v undef p2]; exact h1.2)

/-- Pieces that only read, an operation that makes memory behind each; a last piece; the tail, in its forced order. -/
def walk (F : Nat → Prop) (P : Program) (ops : Array Oper) (Q : Exit → Act → World → Prop) (tail : List Oper) : List (List Oper × Oper) → List Oper → World → Act → Prop
  | [], last, w, a => wpQuiet P ops (Cls F w) (fun a' => wpList P ops Q tail a' w) last a
  | (S, oc) :: t, last, w, a => wpQuiet P ops (Cls F w) (fun a' => wpList P ops (Exit.then (fun a'' w'' => Ext F w w'' ∧ walk F P ops Q tail t last w'' a'') (fun _ _ _ => False)) [oc] a' w) S a

theorem tail_sound {tl : List Nat} {wb : World} : ∀ (l : List Nat) (listed : Array Bool) (a : Act) (w : World), chkT md ops tl l listed = true → wpList P ops Q (pick ops.toList l) a w →
    anyE F P md ops Q tl wb l.length listed a w
  | [], listed, a, w, hc, h => ⟨by simpa [chkT] using hc, by simpa [pick, wpList] using h⟩
  | i :: l, listed, a, w, hc, h => by
    simp only [chkT, Bool.and_eq_true, beq_iff_eq] at hc
    obtain ⟨⟨hr, ht⟩, hc⟩ := hc
    refine ⟨fun h0 => (by rw [h0] at hr; cases hr), fun j hj => ?_⟩
    rw [hr] at hj
    obtain rfl : j = i := by simpa using hj
    have hmem : j ∈ Region.ready md ops listed := by rw [hr]; simp
    obtain ⟨_, o, ho, _⟩ := mem_ready.1 hmem
    have hn : nth ops.toList j = o := nth_of (by simpa using ho)
    simp only [pick, hn, wpList] at h
    rw [if_pos ht]
    unfold wpOp
    simp only [ho]
    have fin : ∀ a' w', wpList P ops Q (pick ops.toList l) a' w' → (tl.contains j = false → Ext F wb w') ∧ anyE F P md ops Q tl wb l.length (listed.setIfInBounds j true) a' w' :=
      fun a' w' h' => ⟨fun hf => (by rw [ht] at hf; cases hf), tail_sound l _ a' w' hc h'⟩
    split
    · rename_i hw
      rw [if_pos hw] at h
      rcases h with h | h
      · exact .inl (Oper.wp_mono fin h)
      · exact .inr h
    · rename_i hw
      rw [if_neg hw] at h
      exact fin _ _ h

theorem seg_sound {tl : List Nat} {W : Array Nat} {wb : World} (hW : waitsB md ops W = true) (hs : Region.noSelect ops = true) {k : Array Bool → Bool} {n : Nat} {K : Act → Prop}
    (hk : ∀ (listed : Array Bool) (a : Act), Closed md ops listed → k listed = true → K a → anyE F P md ops Q tl wb n listed a wb) :
    ∀ (l : List Nat) (listed : Array Bool) (a : Act), Closed md ops listed → chkS md ops W tl l listed k = true → wpQuiet P ops (Cls F wb) K (pick ops.toList l) a →
      anyE F P md ops Q tl wb (l.length + n) listed a wb
  | [], listed, a, hcl, hc, h => by simpa using hk listed a hcl (by simpa [chkS] using hc) (by simpa [pick, wpQuiet] using h)
  | i :: l, listed, a, hcl, hc, h => by
    simp only [chkS, Bool.and_eq_true] at hc
    obtain ⟨⟨hr, hf⟩, hc⟩ := hc
    have hmem : i ∈ Region.ready md ops listed := by simpa using hr
    obtain ⟨_, o, ho, _⟩ := mem_ready.1 hmem
    have hn : nth ops.toList i = o := nth_of (by simpa using ho)
    simp only [freeW, ho, Bool.and_eq_true, List.all_eq_true, List.mem_range] at hf
    obtain ⟨⟨hnc, htl⟩, hall⟩ := hf
    simp only [pick, hn, wpQuiet] at h
    obtain ⟨v, hy, h'⟩ := yld_of_quiet hnc h
    have := seg_sound hW hs hk l _ _ (hcl.step hmem) hc h'
    rw [List.length_cons, Nat.add_right_comm]
    refine anyE_first hW ho (Region.noSelect_spec hs) _ listed a wb hcl (Ext.refl _) (fun j oj hj hne hun => ?_) hmem hy this
    have h2 := hall j (Array.getElem?_eq_some_iff.1 hj).1
    simp only [hj, Bool.or_eq_true, beq_iff_eq, hne, hun, Bool.false_eq_true, false_or, Bool.and_eq_true, Bool.not_eq_true'] at h2
    exact h2

theorem walk_sound {tl : List Nat} {W : Array Nat} (hW : waitsB md ops W = true) (hs : Region.noSelect ops = true) : ∀ (pl : List (List Nat × Nat)) (last : List Nat) (listed : Array Bool) (a : Act) (w : World),
    Closed md ops listed → chk md ops W tl pl last listed = true → walk F P ops Q (pick ops.toList tl) (pl.map fun x => (pick ops.toList x.1, nth ops.toList x.2)) (pick ops.toList last) w a →
    anyE F P md ops Q tl w (planSize pl last tl) listed a w
  | [], last, listed, a, w, hcl, hc, h => by
    have := seg_sound (P := P) (Q := Q) hW hs (k := chkT md ops tl tl) (n := tl.length) (K := fun a' => wpList P ops Q (pick ops.toList tl) a' w) (wb := w)
      (fun l a' _ hk h' => tail_sound tl l a' w hk h') last listed a hcl (by simpa [chk] using hc) (by simpa [walk] using h)
    simpa [planSize] using this
  | (S, i) :: t, last, listed, a, w, hcl, hc, h => by
    have := seg_sound (P := P) (Q := Q) hW hs (wb := w) (n := planSize t last tl + 1) (tl := tl)
      (k := fun l' => Region.ready md ops l' == [i] && !tl.contains i && chk md ops W tl t last (l'.setIfInBounds i true))
      (K := fun a' => wpList P ops (Exit.then (fun a'' w'' => Ext F w w'' ∧ walk F P ops Q (pick ops.toList tl) (t.map fun x => (pick ops.toList x.1, nth ops.toList x.2)) (pick ops.toList last) w'' a'') (fun _ _ _ => False)) [nth ops.toList i] a' w)
      (fun l a' hcl' hk h' => by
        simp only [Bool.and_eq_true, beq_iff_eq, Bool.not_eq_true'] at hk
        obtain ⟨⟨hr, ht⟩, hc'⟩ := hk
        refine ⟨fun h0 => (by rw [h0] at hr; cases hr), fun j hj => ?_⟩
        rw [hr] at hj
        obtain rfl : j = i := by simpa using hj
        have hmem : j ∈ Region.ready md ops l := by rw [hr]; simp
        obtain ⟨_, o, ho, _⟩ := mem_ready.1 hmem
        have hn : nth ops.toList j = o := nth_of (by simpa using ho)
        rw [ht]
        simp only [Bool.false_eq_true, if_false]
        simp only [hn, wpList, Exit.then] at h'
        have fin : ∀ a'' w'', (Ext F w w'' ∧ walk F P ops Q (pick ops.toList tl) (t.map fun x => (pick ops.toList x.1, nth ops.toList x.2)) (pick ops.toList last) w'' a'') →
            (True → Ext F w w'') ∧ anyE F P md ops Q tl w (planSize t last tl) (l.setIfInBounds j true) a'' w'' := fun a'' w'' hh =>
          ⟨fun _ => hh.1, anyE_base hh.1 _ _ _ _ (walk_sound hW hs t last _ a'' w'' (hcl'.step hmem) hc' hh.2)⟩
        unfold wpOp
        simp only [ho]
        split
        · rename_i hw
          rw [if_pos hw] at h'
          rcases h' with h' | ⟨_, a0, w0, hq⟩
          · refine .inl (wp_monoQ (Q' := Exit.then (fun a'' w'' => Ext F w w'' ∧ walk F P ops Q (pick ops.toList tl) (t.map fun x => (pick ops.toList x.1, nth ops.toList x.2)) (pick ops.toList last) w'' a'') (fun _ _ _ => False)) (fun c a1 w1 hq => hq.elim) (fun a1 w1 hq => hq.elim) (Oper.wp_mono fin h'))
          · exact hq.elim
        · rename_i hw
          rw [if_neg hw] at h'
          exact fin _ _ h') S listed a hcl (by simpa [chk] using hc) (by simpa [walk] using h)
    have e : planSize ((S, i) :: t) last tl = S.length + (planSize t last tl + 1) := by simp [planSize]; omega
    rw [e]
    exact this

theorem region (F : Nat → Prop) {id : Nat} {l : List Oper} {a : Act} {w : World} (pl : List (List Nat × Nat)) (last tl : List Nat) (hm : P.follows .mixedOrders = true)
    (hB : (waitsB .any l.toArray (Region.before l.toArray) && Region.noSelect l.toArray && chk .any l.toArray (Region.before l.toArray) tl pl last (Array.replicate l.length false) && planSize pl last tl == l.length) = true)
    (h : ∀ w', Rg.Ext w w' → walk F P l.toArray Q (pick l tl) (pl.map fun x => (pick l x.1, nth l x.2)) (pick l last) w' a) : (Code.region id l.toArray true).wp P Q a w := by
  simp only [Bool.and_eq_true, beq_iff_eq] at hB
  obtain ⟨⟨⟨hW, hs⟩, hc⟩, hsz⟩ := hB
  refine wp_region_any hm (anyE_any (F := F) (tl := tl) (wb := { w with drawn := w.drawn + 1 }) _ _ _ _ ?_)
  have := walk_sound (F := F) (P := P) (Q := Q) (md := .any) (ops := l.toArray) (tl := tl) hW hs pl last (Array.replicate l.length false) a { w with drawn := w.drawn + 1 } (by
    intro j o _ hl
    exfalso
    simp [Array.getElem?_replicate] at hl
    split at hl <;> simp_all) (by simpa using hc) (by simpa using h _ (Below.drew (Below.refl _ w)))
  rw [hsz] at this
  simpa using this

/-- The first piece and its operation; what follows is held back. -/
theorem walk_at {l : List Oper} {tail last : List Oper} {S : List Nat} {i : Nat} {t : List (List Nat × Nat)} {w : World} {a : Act}
    (h : ∀ K : Act → World → Prop, RowKit.Hid (∀ a' w', walk F P ops Q tail (t.map fun x => (pick l x.1, nth l x.2)) last w' a' → K a' w') →
      wpQuiet P ops (Cls F w) (fun a' => wpList P ops (Exit.then (fun a'' w'' => Ext F w w'' ∧ K a'' w'') (fun _ _ _ => False)) [nth l i] a' w) (pick l S) a) :
    walk F P ops Q tail (((S, i) :: t).map fun x => (pick l x.1, nth l x.2)) last w a :=
  h _ (Lib.hid fun _ _ h => h)
/-- The last piece and the tail. -/
theorem walk_end {l : List Oper} {tail last : List Oper} {w : World} {a : Act}
    (h : wpQuiet P ops (Cls F w) (fun a' => wpList P ops Q tail a' w) last a) :
    walk F P ops Q tail (([] : List (List Nat × Nat)).map fun x => (pick l x.1, nth l x.2)) last w a := h
end
end Rf
end Go.Proofs.Ytgioofknlbdfjaa

/- Walks of package word: Int, sum, Add, Sub, Cmp. -/
namespace Go.Proofs.Ytgioofknlbdfjaa
open Go.RowKit Rp Rg Ops Mm Ar Wm
namespace Wd
theorem aggW : Agg Try.prog 31 4 := ⟨⟨.array 4 28, by kernel_rfl, rfl⟩, by kernel_rfl⟩

/-- Cell k is set: the rest is as it was. -/
theorem grow_at {α : Type} (V : α → Value) (f : Nat → α) (z : α) (k i : Nat) : V (if i < k + 1 then f i else z) = if i = k then V (f k) else V (if i < k then f i else z) := by
  by_cases h : i = k
  · subst h; simp
  · rw [if_neg h]
    by_cases h2 : i < k
    · rw [if_pos h2, if_pos (Nat.lt_succ_of_lt h2)]
    · rw [if_neg h2, if_neg (by omega)]

theorem word_small (n : Nat) (h0 : n < m64) : wordA n = #[.int .u64 (n : Int), .int .u64 0, .int .u64 0, .int .u64 0] := by
  simp only [wordA, arr, List.range_succ_eq_map, List.range_zero, List.map_cons, List.map_nil, u64V]
  have e0 : limb n 0 = n := by simp [limb, Nat.mod_eq_of_lt h0]
  have e : ∀ k, limb n (k + 1) = 0 := fun k => by
    unfold limb
    rw [Nat.div_eq_of_lt (Nat.lt_of_lt_of_le h0 (by rw [Nat.pow_succ]; exact Nat.le_mul_of_pos_left _ (pow_pos' k)))]
    simp
  simp [e0, e]

theorem IntW (n : Nat) (hn : n < m64) (w : World) : Calls Try.prog 14 #[.int .u64 (n : Int)] w fun e w' => e = .returned (.agg (wordA n)) ∧ Ext w w' := by
  have hz := word_small n hn
  have HZ := Lib.hid hz
  clear hz
  have s1 := (St.start w).alloc (arr 4 fun _ => .int .u64 0) 31
  have s2 := s1.setRow 0 rfl #[.int .u64 (n : Int), .int .u64 0, .int .u64 0, .int .u64 0]
  go_enter Try.func14, Try.ntmps14
  go_wp2_with (refine stAll aggW (vs := #[.int .u64 (n : Int), .int .u64 0, .int .u64 0, .int .u64 0]) rfl _ _ rfl (by rfl) (by rfl) (s1.at 0 rfl) (by rfl) (by rfl) (by simp [Value.oneCell']) ?_)
  go_wp2
  refine bodyPost_ret (v := .agg _) (ret_cell aggW rfl rfl (s2.at 0 rfl) rfl) rfl ⟨by rw [HZ.out], s2.below⟩
def sub64Entry : Array Value → Sem Value := fun args => do
  let (x, y, b) ← Extern.MathBitsCarry.three "Sub64" args
  pure (Extern.MathBitsCarry.pair ((x + Extern.MathBitsCarry.m64 - y - b) % Extern.MathBitsCarry.m64) (if x < y + b then 1 else 0))
theorem run_sub64 {P : Program} (x y c : Nat) (hc : c ≤ 1) (w : World) : (sub64Entry #[.int .u64 x, .int .u64 y, .int .u64 c]).run P w =
    .ok (.tuple #[.int .u64 ((x + m64 - y - c) % m64 : Nat), .int .u64 ((if x < y + c then 1 else 0 : Nat) : Int)]) w := by
  have : c = 0 ∨ c = 1 := by omega
  rcases this with rfl | rfl <;> rfl
theorem Sub64 (x y c : Nat) (hc : c ≤ 1) (w : World) : (callFunc 18 #[.int .u64 (x : Int), .int .u64 (y : Int), .int .u64 (c : Int)]).run Try.prog w =
    .ok (.value (.tuple #[.int .u64 (((x + m64 - y - c) % m64 : Nat) : Int), .int .u64 ((if x < y + c then 1 else 0 : Nat) : Int)])) w := by
  rw [run_callFunc_extern (e := sub64Entry) Try.func18 (by kernel_rfl) (by kernel_rfl) (by kernel_rfl) (by kernel_rfl)]
  rw [run_sub64 _ _ _ hc]
  simp [Result.andThen]
end Wd
end Go.Proofs.Ytgioofknlbdfjaa

/- Walks of package word: Add, Sub, Cmp. -/
namespace Go.Proofs.Ytgioofknlbdfjaa
open Go.RowKit Rp Rg Ops Mm Ar Wm
namespace Wd
theorem Sub (x y : Nat) (w : World) : Calls Try.prog 13 #[.agg (wordA x), .agg (wordA y)] w fun e w' => e = .returned (.agg (wordA (dif x y))) ∧ Ext w w' := by
  go_enter Try.func13, Try.ntmps13
  go_wp2
  have s1 := ((((St.start w).alloc (wordA x) 31).alloc' (wordA y) 31 (w.heap.size + 1) (by simp)).alloc' (arr 4 fun _ => u64V 0) 31 (w.heap.size + 1 + 1) (by simp)).alloc' (arr 4 fun _ => u64V 0) 31 (w.heap.size + 1 + 1 + 1) (by simp)
  go_loopw [6, 8] (fun c i wr => ∃ k : Nat, k ≤ 4 ∧ i = .int .i64 k ∧ c = .int .u64 (borrow x y k : Int) ∧
      St w wr [(w.heap.size + 1 + 1 + 1, 31, arr 4 fun i => u64V (if i < k then limb (dif x y) i else 0)), (w.heap.size + 1 + 1, 31, arr 4 fun _ => u64V 0), (w.heap.size + 1, 31, wordA y), (w.heap.size, 31, wordA x)]) (fun _ i _ => 4 - (intOf i).toNat)
  case atStart => exact ⟨0, by omega, rfl, by rw [borrow_zero]; rfl, s1⟩
  case round =>
    obtain ⟨k, hk, rfl, rfl, st⟩ := hrel
    by_cases hlt : k < 4
    · have a1 := st.cell 3 rfl k (wordA_get x k hlt)
      have a2 := st.cell 2 rfl k (wordA_get y k hlt)
      go_wp2
      refine Rf.region (· ≠ w.heap.size + 1 + 1 + 1) [([0, 1, 2, 3, 4, 5, 6, 7], 8), ([9, 10, 11, 12], 13)] [14] [] (by kernel_rfl) (by kernel_rfl) fun w' hw' => ?_
      have st' := st.ext hw'
      have b1 := Rf.later (F := (· ≠ w.heap.size + 1 + 1 + 1)) (st'.cell 3 rfl k (wordA_get x k hlt)) (by simp; omega)
      have b2 := Rf.later (F := (· ≠ w.heap.size + 1 + 1 + 1)) (st'.cell 2 rfl k (wordA_get y k hlt)) (by simp)
      have c3 := st'.cell 0 rfl k (arr_get 4 _ k hlt)
      have f3 := st'.frozen 0 rfl k
      have hc := Sub64 (limb x k) (limb y k) (borrow x y k) (borrow_le x y k)
      rw [sub_limb x y k hlt, sub_borrow] at hc
      simp only [Rf.walk, Rg.pick, Rg.nth, List.map_cons, List.map_nil]
      repeat (go_big_quiet_step (fail))
      refine wpQuiet_nil ?_
      go_wp2
      refine ⟨Rf.Ext.refl _, ?_⟩
      repeat (go_big_quiet_step (fail))
      refine wpQuiet_nil ?_
      go_wp2
      refine ⟨Rf.Ext.setCell _ _ _ (by simp), ?_⟩
      repeat (go_big_quiet_step (fail))
      refine wpQuiet_nil ?_
      go_wp2
      go_roundw
      case rel =>
        refine ⟨k + 1, by omega, by simp, rfl, ?_⟩
        exact st'.setFn 0 rfl k _ (fun i hi => grow_at (u64V) (limb (dif x y)) 0 k i) rfl
      case measure => simp [intOf]; omega
    · obtain rfl : k = 4 := by omega
      have e : (arr 4 fun i => u64V (if i < 4 then limb (dif x y) i else 0)) = wordA (dif x y) := arr_ext fun i hi => by rw [if_pos hi]
      rw [e] at st
      have s2 := st.setRow 1 rfl (wordA (dif x y))
      go_wp2_with (first
        | refine ldAll aggW rfl _ rfl (by rfl) (st.at 0 rfl) (by rfl) ?_
        | refine stAll aggW (vs := wordA (dif x y)) rfl _ _ rfl (by rfl) (by rfl) (st.at 1 rfl) (by rfl) (by rfl) (wordA_mem _) ?_)
      go_wp2
      refine bodyPost_ret (v := .agg _) (ret_cell aggW rfl rfl (s2.at 1 rfl) rfl) rfl ⟨rfl, s2.below⟩
theorem cmp_step {x y k : Nat} (h : x / m64 ^ (k + 1) = y / m64 ^ (k + 1)) : (limb x k < limb y k ↔ x / m64 ^ k < y / m64 ^ k) ∧ (x / m64 ^ k = y / m64 ^ k ↔ limb x k = limb y k) := by
  unfold limb
  rw [Nat.pow_succ, ← Nat.div_div_eq_div_mul, ← Nat.div_div_eq_div_mul] at h
  generalize x / m64 ^ k = A at *
  generalize y / m64 ^ k = B at *
  have := Nat.div_add_mod A m64
  have := Nat.div_add_mod B m64
  rw [h] at *
  omega

theorem Cmp (x y : Nat) (w : World) : Calls Try.prog 12 #[.agg (wordA x), .agg (wordA y)] w fun e w' => e = .returned (.int .i64 (cmp x y)) ∧ Ext w w' := by
  obtain ⟨X, hX, hXe, hXl⟩ : ∃ X, wordA x = wordA X ∧ x % M256 = X ∧ X < M256 := ⟨x % M256, (wordA_mod x).symm, rfl, Nat.mod_lt _ M256_pos⟩
  obtain ⟨Y, hY, hYe, hYl⟩ : ∃ Y, wordA y = wordA Y ∧ y % M256 = Y ∧ Y < M256 := ⟨y % M256, (wordA_mod y).symm, rfl, Nat.mod_lt _ M256_pos⟩
  obtain ⟨c, hc⟩ : ∃ c, c = cmp x y := ⟨_, rfl⟩
  rw [hX, hY, ← hc]
  have clt : X < Y → c = -1 := fun h => by rw [hc, cmp, hXe, hYe, if_pos h]
  have cgt : Y < X → c = 1 := fun h => by rw [hc, cmp, hXe, hYe, if_neg (by omega), if_pos h]
  have ceq : X = Y → c = 0 := fun h => by rw [hc, cmp, hXe, hYe, if_neg (by omega), if_neg (by omega)]
  clear hX hY hXe hYe hc
  go_enter Try.func12, Try.ntmps12
  have s1 := ((St.start w).alloc (wordA X) 31).alloc' (wordA Y) 31 (w.heap.size + 1) (by simp)
  go_wp2
  go_loopw [5] (fun i wr => ∃ (k : Nat) (z : Int), k ≤ 4 ∧ z = (k : Int) - 1 ∧ i = .int .i64 z ∧ X / m64 ^ k = Y / m64 ^ k ∧
      St w wr [(w.heap.size + 1, 31, wordA Y), (w.heap.size, 31, wordA X)]) (fun i _ => (intOf i + 1).toNat)
  case atStart =>
    refine ⟨4, 3, by omega, rfl, rfl, ?_, s1⟩
    rw [Nat.div_eq_of_lt (by exact hXl), Nat.div_eq_of_lt (by exact hYl)]
  case round =>
    obtain ⟨k, z, hk, hz, rfl, he, st⟩ := hrel
    cases k with
    | zero =>
      have hxy : X = Y := by simpa using he
      obtain rfl : z = -1 := by omega
      clear hz
      go_wp2
      go_ret
      exact ⟨by rw [ceq hxy]; rfl, st.below⟩
    | succ k =>
      have C := Lib.hid (cmp_step he)
      obtain rfl : z = (k : Int) := by omega
      clear hz
      go_wp2
      refine Rg.region [] [0, 1, 2, 3, 4, 5, 6, 7] [] (by kernel_rfl) (by kernel_rfl) fun w' hw' => ?_
      have st' := st.ext hw'
      have b1 := Rg.later (st'.cell 1 rfl k (wordA_get X k (by omega)))
      have b2 := Rg.later (st'.cell 0 rfl k (wordA_get Y k (by omega)))
      simp only [Rg.walk, Rg.pick, Rg.nth, List.map_nil]
      repeat (go_big_quiet_step (fail))
      refine wpQuiet_nil ?_
      by_cases h1 : limb X k < limb Y k
      · have : X < Y := by
          refine Nat.lt_of_not_le fun h => ?_
          have := Nat.div_le_div_right (c := m64 ^ k) h
          have := C.out.1.1 h1
          omega
        have hd : decide (limb X k < limb Y k) = true := by simpa using h1
        go_wp2
        go_ret
        exact ⟨by rw [clt this]; rfl, st'.below⟩
      · have hd : decide (limb X k < limb Y k) = false := by simpa using h1
        go_wp2
        refine Rg.region [] [0, 1, 2, 3, 4, 5, 6, 7] [] (by kernel_rfl) (by kernel_rfl) fun w2 hw2 => ?_
        have st2 := st'.ext hw2
        have b1 := Rg.later (st2.cell 1 rfl k (wordA_get X k (by omega)))
        have b2 := Rg.later (st2.cell 0 rfl k (wordA_get Y k (by omega)))
        simp only [Rg.walk, Rg.pick, Rg.nth, List.map_nil]
        repeat (go_big_quiet_step (fail))
        refine wpQuiet_nil ?_
        by_cases h2 : limb Y k < limb X k
        · have : Y < X := by
            refine Nat.lt_of_not_le fun h => ?_
            have h3 := Nat.div_le_div_right (c := m64 ^ k) h
            have h4 := C.out
            have h5 : X / m64 ^ k ≠ Y / m64 ^ k := fun h => by have := h4.2.1 h; omega
            have := h4.1.2 (by omega)
            omega
          have hd2 : decide (limb Y k < limb X k) = true := by simpa using h2
          go_wp2
          go_ret
          exact ⟨by rw [cgt this]; rfl, st2.below⟩
        · have hd2 : decide (limb Y k < limb X k) = false := by simpa using h2
          go_wp2
          go_roundw
          case rel => exact ⟨k, (k : Int) - 1, by omega, rfl, rfl, C.out.2.2 (by omega), st2⟩
          case measure => simp [intOf]
end Wd
end Go.Proofs.Ytgioofknlbdfjaa

/- Words over the lifted state: as lists of four numbers; contracts of package word. -/
namespace Go.Proofs.Ytgioofknlbdfjaa
open Go.RowKit Rg Wm Ar
namespace Lf
def limbs (x : Nat) : List Nat := [limb x 0, limb x 1, limb x 2, limb x 3]
abbrev wV (x : Nat) : V := .a ((limbs x).map uK)
theorem limbs_len (x : Nat) : (limbs x).length = 4 := rfl
theorem limbs_get (x : Nat) {k : Nat} (h : k < 4) : (limbs x).getD k default = limb x k := by
  match k, h with
  | 0, _ => rfl
  | 1, _ => rfl
  | 2, _ => rfl
  | 3, _ => rfl
theorem limb_lt64 (x k : Nat) : limb x k < 18446744073709551616 := limb_lt x k
theorem limbs_lt (x k : Nat) : (limbs x).getD k default < 18446744073709551616 := by
  rcases Nat.lt_or_ge k 4 with h | h
  · rw [limbs_get x h]; exact limb_lt64 x k
  · rw [List.getD_eq_getElem?_getD, List.getElem?_eq_none (by rw [limbs_len]; exact h)]; exact Nat.zero_lt_succ _
theorem wordA_list (x : Nat) : wordA x = #[.int .u64 (limb x 0 : Int), .int .u64 (limb x 1 : Int), .int .u64 (limb x 2 : Int), .int .u64 (limb x 3 : Int)] := rfl
theorem exact_word (x : Nat) : Exact (wV x) (.agg (wordA x)) := by
  rw [wordA_list]
  refine ⟨fun w g => .a rfl (fun u hu => ?_) (fun j u y hj hy => ?_), fun w g y h => ?_⟩
  · obtain ⟨a, _, rfl⟩ := List.mem_map.1 hu; rfl
  · match j with
    | 0 => simp [limbs] at hj hy; subst hj; subst hy; exact .k _
    | 1 => simp [limbs] at hj hy; subst hj; subst hy; exact .k _
    | 2 => simp [limbs] at hj hy; subst hj; subst hy; exact .k _
    | 3 => simp [limbs] at hj hy; subst hj; subst hy; exact .k _
    | j + 4 => simp [limbs] at hj
  · cases h with
    | @a _ _ vs hl h1 hc =>
      have hs : vs.size = 4 := by simpa [limbs] using hl.symm
      congr 1
      apply Array.ext
      · simpa using hs
      · intro i h1 h2
        have hv : vs[i]? = some vs[i] := Array.getElem?_eq_getElem h1
        match i with
        | 0 => exact rep_k (hc 0 _ _ rfl hv)
        | 1 => exact rep_k (hc 1 _ _ rfl hv)
        | 2 => exact rep_k (hc 2 _ _ rfl hv)
        | 3 => exact rep_k (hc 3 _ _ rfl hv)
        | i + 4 => omega
theorem limbs_eq {x y : Nat} (h : x % M256 = y % M256) : limbs x = limbs y := by
  have := wordA_eq h
  rw [wordA_list, wordA_list] at this
  simp only [Array.mk.injEq, List.cons.injEq, Value.int.injEq, true_and, and_true] at this
  obtain ⟨h1, h2, h3, h4⟩ := this
  simp only [limbs, List.cons.injEq, and_true]
  exact ⟨by omega, by omega, by omega, by omega⟩
theorem limbs_inj {x y : Nat} (h : limbs x = limbs y) : x % M256 = y % M256 := by
  refine wordA_inj ?_
  simp only [limbs, List.cons.injEq, and_true] at h
  obtain ⟨h1, h2, h3, h4⟩ := h
  rw [wordA_list, wordA_list, h1, h2, h3, h4]
theorem limbs_iff {x y : Nat} : limbs x = limbs y ↔ x % M256 = y % M256 := ⟨limbs_inj, limbs_eq⟩
theorem limbs_small {n : Nat} (h : n < m64) : limbs n = [n, 0, 0, 0] := by
  have h0 : limb n 0 = n := by unfold limb; rw [Nat.pow_zero, Nat.div_one, Nat.mod_eq_of_lt h]
  have hi : ∀ i, 1 ≤ i → limb n i = 0 := fun i hi => by
    have : m64 ≤ m64 ^ i := by
      have := Nat.pow_le_pow_right (show 0 < m64 from m64_pos) hi
      rwa [Nat.pow_one] at this
    unfold limb; rw [Nat.div_eq_of_lt (by omega), Nat.zero_mod]
  unfold limbs
  rw [h0, hi 1 (by decide), hi 2 (by decide), hi 3 (by decide)]
/-- The number of four parts. -/
def numOf (l : List Nat) : Nat := val (fun k => l.getD k 0) 4
theorem limbs_num {l : List Nat} (h : l.length = 4) (hl : ∀ a ∈ l, a < m64) : limbs (numOf l) = l := by
  match l, h with
  | [a, b, c, d], _ =>
    have hk : ∀ k, k < 4 → (fun k => [a, b, c, d].getD k 0) k < m64 := fun k hk => by
      match k, hk with
      | 0, _ => exact hl a (by simp)
      | 1, _ => exact hl b (by simp)
      | 2, _ => exact hl c (by simp)
      | 3, _ => exact hl d (by simp)
    unfold limbs numOf
    rw [limb_val hk (by decide : 0 < 4), limb_val hk (by decide : 1 < 4), limb_val hk (by decide : 2 < 4), limb_val hk (by decide : 3 < 4)]
    rfl
theorem numOf_lt {l : List Nat} (h : l.length = 4) (hl : ∀ a ∈ l, a < m64) : numOf l < M256 := by
  match l, h with
  | [a, b, c, d], _ =>
    refine val_lt fun k hk => ?_
    match k, hk with
    | 0, _ => exact hl a (by simp)
    | 1, _ => exact hl b (by simp)
    | 2, _ => exact hl c (by simp)
    | 3, _ => exact hl d (by simp)
/-! ### Bytes -/
def beB (x : Nat) : Nat → List UInt8
  | 0 => []
  | n + 1 => UInt8.ofNat (x / 256 ^ n % 256) :: beB x n
theorem beB_len (x n : Nat) : (beB x n).length = n := by induction n <;> simp [beB, *]
theorem beB_num (x : Nat) : ∀ n, Ps.beN (beB x n) = x % 256 ^ n
  | 0 => by simp [beB, Ps.beN, Ps.nat8, Ps.pos, Nat.mod_one]
  | n + 1 => by
    have ih := beB_num x n
    have e : Ps.beN (beB x (n + 1)) = x / 256 ^ n % 256 * 256 ^ n + Ps.beN (beB x n) := by
      simp only [beB, Ps.beN, Ps.nat8, List.map_cons, Ps.pos, List.length_map, beB_len, UInt8.toNat_ofNat']
      simp
    rw [e, ih, Nat.pow_succ, Nat.mod_mul, Nat.mul_comm]
    omega
theorem m256_bytes : M256 = 256 ^ 32 := by unfold M256 m64; decide
def wordB (x : Nat) : List UInt8 := beB x 32
theorem wordB_len (x : Nat) : (wordB x).length = 32 := beB_len x 32
theorem wordB_num (x : Nat) : Ps.beN (wordB x) = x % M256 := by rw [m256_bytes]; exact beB_num x 32
def bytesR (x i : Nat) : List UInt8 := (List.range 32).map fun j => if j < i then UInt8.ofNat (x / 256 ^ (31 - j) % 256) else 0
theorem bytesR_len (x i : Nat) : (bytesR x i).length = 32 := by simp [bytesR]
theorem bytesR_full (x : Nat) : bytesR x 32 = wordB x := by
  have e : ∀ n, beB x n = (List.range n).map fun j => UInt8.ofNat (x / 256 ^ (n - 1 - j) % 256) := by
    intro n
    induction n with
    | zero => rfl
    | succ n ih =>
      rw [beB, ih, List.range_succ_eq_map, List.map_cons, List.map_map]
      congr 1
      refine List.map_congr_left fun j hj => ?_
      have := List.mem_range.1 hj
      simp only [Function.comp]
      rw [show n + 1 - 1 - (j + 1) = n - 1 - j by omega]
  unfold wordB bytesR
  rw [e]
  refine List.map_congr_left fun j hj => ?_
  rw [if_pos (List.mem_range.1 hj)]
theorem bytesR_set (x i : Nat) (hi : i < 32) {b : Nat} (hb : b % 256 = x / 256 ^ (31 - i) % 256) : (bytesR x i).set i (UInt8.ofNat b) = bytesR x (i + 1) := by
  apply List.ext_getElem
  · simp [bytesR]
  · intro j h1 h2
    rw [List.getElem_set]
    simp only [bytesR, List.getElem_map, List.getElem_range]
    by_cases h : i = j
    · subst h
      rw [if_pos rfl, if_pos (by omega)]
      apply UInt8.toNat_inj.1
      rw [UInt8.toNat_ofNat', UInt8.toNat_ofNat']
      omega
    · rw [if_neg h]
      by_cases h3 : j < i
      · rw [if_pos h3, if_pos (by omega)]
      · rw [if_neg h3, if_neg (by omega)]
theorem limb_byte (x k r : Nat) (hr : r < 8) : limb x k / 2 ^ (r * 8) % 256 = x / 256 ^ (8 * k + r) % 256 := by
  unfold limb
  have e1 : (256 : Nat) ^ (8 * k + r) = m64 ^ k * 2 ^ (r * 8) := by
    rw [Nat.pow_add, Nat.pow_mul]
    have h1 : (256 : Nat) ^ 8 = m64 := by unfold m64; decide
    have h2 : (256 : Nat) ^ r = 2 ^ (r * 8) := by rw [Nat.mul_comm, Nat.pow_mul]
    rw [h1, h2]
  rw [e1, ← Nat.div_div_eq_div_mul]
  generalize x / m64 ^ k = y
  have h3 : m64 = 2 ^ (r * 8) * 2 ^ ((8 - r) * 8) := by rw [← Nat.pow_add, show r * 8 + (8 - r) * 8 = 64 from by omega]; unfold m64; decide
  have h4 : (256 : Nat) ∣ 2 ^ ((8 - r) * 8) := by
    refine ⟨2 ^ ((8 - r) * 8 - 8), ?_⟩
    have : (8 - r) * 8 = 8 + ((8 - r) * 8 - 8) := by omega
    rw [this, Nat.pow_add]; simp
  rw [h3, Nat.mod_mul_right_div_self]
  exact Nat.mod_mod_of_dvd _ h4
theorem pow256 (i : Nat) : (256 : Nat) ^ i = m64 ^ (i / 8) * 2 ^ (i % 8 * 8) := by
  have h1 : (256 : Nat) ^ 8 = m64 := by unfold m64; decide
  have h2 : (256 : Nat) ^ (i % 8) = 2 ^ (i % 8 * 8) := by rw [Nat.mul_comm, Nat.pow_mul]
  rw [← h1, ← h2, ← Nat.pow_mul, ← Nat.pow_add, Nat.div_add_mod]
theorem limb_set {V b i : Nat} (hV : V < 256 ^ i) (hb : b < 256) (k : Nat) : limb (V + b * 256 ^ i) k = if k = i / 8 then limb V k ||| (b * 2 ^ (i % 8 * 8) % 2 ^ 64) else limb V k := by
  have hp := pow256 i
  have hm : 2 ^ 64 = m64 := by unfold m64; decide
  have hr : i % 8 < 8 := Nat.mod_lt _ (by decide)
  have h64 : m64 = 2 ^ (i % 8 * 8) * 2 ^ (64 - i % 8 * 8) := by rw [← Nat.pow_add, ← hm, show i % 8 * 8 + (64 - i % 8 * 8) = 64 from by omega]
  have hpos : ∀ j, 0 < m64 ^ j := fun j => pow_pos' j
  have hle : b * 2 ^ (i % 8 * 8) + 2 ^ (i % 8 * 8) ≤ m64 := by
    have h1 : (2 : Nat) ^ 8 ≤ 2 ^ (64 - i % 8 * 8) := Nat.pow_le_pow_right (by decide) (by omega)
    have h2 : (b + 1) * 2 ^ (i % 8 * 8) ≤ 2 ^ (64 - i % 8 * 8) * 2 ^ (i % 8 * 8) := Nat.mul_le_mul_right _ (by omega)
    rw [Nat.mul_comm (2 ^ (64 - i % 8 * 8)), ← h64, Nat.add_mul, Nat.one_mul] at h2
    exact h2
  have hs0 : 0 < 2 ^ (i % 8 * 8) := Nat.two_pow_pos _
  rcases Nat.lt_trichotomy k (i / 8) with h | h | h
  · rw [if_neg (by omega)]
    obtain ⟨j, hj⟩ : ∃ j, i / 8 = k + 1 + j := ⟨i / 8 - k - 1, by omega⟩
    unfold limb
    rw [hp, hj, show b * (m64 ^ (k + 1 + j) * 2 ^ (i % 8 * 8)) = m64 ^ k * (m64 * (m64 ^ j * (b * 2 ^ (i % 8 * 8)))) from by rw [Nat.pow_add, Nat.pow_add, Nat.pow_one]; ac_rfl, Nat.add_mul_div_left _ _ (hpos k), Nat.add_mul_mod_self_left]
  · rw [if_pos h]
    subst h
    have hlt : V / m64 ^ (i / 8) < 2 ^ (i % 8 * 8) := Nat.div_lt_of_lt_mul (by rw [← hp]; exact hV)
    unfold limb
    rw [hp, show b * (m64 ^ (i / 8) * 2 ^ (i % 8 * 8)) = m64 ^ (i / 8) * (b * 2 ^ (i % 8 * 8)) from by ac_rfl, Nat.add_mul_div_left _ _ (hpos _)]
    rw [Nat.mod_eq_of_lt (show V / m64 ^ (i / 8) < m64 by omega), hm, Nat.mod_eq_of_lt (show b * 2 ^ (i % 8 * 8) < m64 by omega), Nat.mod_eq_of_lt (by omega)]
    rw [Nat.or_comm, Nat.mul_comm b, ← Nat.two_pow_add_eq_or_of_lt hlt, Nat.add_comm]
  · rw [if_neg (by omega)]
    have h1 : (256 : Nat) ^ (i + 1) ≤ m64 ^ k := by
      have : (256 : Nat) ^ (i + 1) ≤ 256 ^ (8 * k) := Nat.pow_le_pow_right (by decide) (by omega)
      rw [Nat.pow_mul] at this
      have e : (256 : Nat) ^ 8 = m64 := by unfold m64; decide
      rwa [e] at this
    have h2 : V + b * 256 ^ i < 256 ^ (i + 1) := by
      have h2 := Nat.mul_le_mul_right (256 ^ i) (Nat.succ_le_of_lt hb)
      rw [Nat.pow_succ, Nat.mul_comm (256 ^ i)]
      rw [Nat.succ_mul] at h2
      omega
    unfold limb
    rw [Nat.div_eq_of_lt (by omega), Nat.div_eq_of_lt (by omega)]
/-- The number of the last i bytes. -/
def tailN (l : List UInt8) (i : Nat) : Nat := Ps.beN (l.drop (l.length - i))
theorem tailN_zero (l : List UInt8) : tailN l 0 = 0 := by unfold tailN; rw [Nat.sub_zero, List.drop_length]; rfl
theorem tailN_all (l : List UInt8) : tailN l l.length = Ps.beN l := by unfold tailN; rw [Nat.sub_self, List.drop_zero]
theorem tailN_lt (l : List UInt8) {i : Nat} (h : i ≤ l.length) : tailN l i < 256 ^ i := by
  have := Ps.beN_lt (l.drop (l.length - i))
  rwa [List.length_drop, show l.length - (l.length - i) = i by omega] at this
theorem tailN_succ (l : List UInt8) {i : Nat} (h : i < l.length) : tailN l (i + 1) = tailN l i + (l.getD (l.length - 1 - i) default).toNat * 256 ^ i := by
  unfold tailN
  rw [show l.length - (i + 1) = l.length - 1 - i by omega, List.drop_eq_getElem_cons (by omega)]
  have e : l.length - 1 - i + 1 = l.length - i := by omega
  rw [e]
  have e2 : ∀ (a : UInt8) (r : List UInt8), Ps.beN (a :: r) = a.toNat * 256 ^ r.length + Ps.beN r := fun a r => by simp [Ps.beN, Ps.nat8, Ps.pos]
  rw [e2, List.length_drop, show l.length - (l.length - i) = i by omega, Nat.add_comm]
  simp [List.getD_eq_getElem?_getD, List.getElem?_eq_getElem (show l.length - 1 - i < l.length by omega)]
attribute [irreducible] bytesR limbs tailN wordB
end Lf
end Go.Proofs.Ytgioofknlbdfjaa

/- Package memory: the plain model of what is done to a memory. -/
namespace Go.Proofs.Ytgioofknlbdfjaa
open Wm Ar
set_option maxRecDepth 20000
namespace My
structure MOp where
  kind : Int
  at_ : Nat
  from_ : Nat
  len : Nat
  word : Nat
  data : List UInt8
structure MOp.ok (o : MOp) : Prop where
  a : o.at_ < M256
  f : o.from_ < M256
  l : o.len < M256
  w : o.word < M256
structure Ans where
  err : Int
  word : Nat
  cost : Nat
/-- How often it has grown, and what it has. -/
structure St where
  gen : Nat
  l : List UInt8
def cost (w : Nat) : Nat := if w ≤ 128 then 3 * w + w * w / 64 else 0
def price (L size : Nat) : Nat := if size ≤ L then 0 else cost (size / 32) - cost (L / 32)
def up (n : Nat) : Nat := (n + 31) / 32 * 32
def need (L a n : Nat) : Option Nat := if n = 0 then some L else if 4096 < a ∨ 4096 - a < n then none else some (max L (up (a + n)))
def grow (s : St) (size : Nat) : St := if size ≤ s.l.length then s else ⟨s.gen + 1, s.l ++ List.replicate (size - s.l.length) 0⟩
def view (l : List UInt8) (a n : Nat) : List UInt8 := (l.drop a).take n
def refused (e : Int) (s : St) : Ans × St := (⟨e, 0, 0⟩, s)
def size1 (L : Nat) (a n : Nat) : Option Nat := need L a n
def size2 (L a f n : Nat) : Option Nat := match need L a n, need L f n with
  | some x, some y => some (max x y)
  | _, _ => none
def sizeOf (L : Nat) (o : MOp) : Option Nat :=
  if o.kind = 1 ∨ o.kind = 2 then need L o.at_ 32
  else if o.kind = 3 then need L o.at_ 1
  else if o.kind = 4 then size2 L o.at_ o.from_ o.len
  else need L o.at_ o.data.length
def act (o : MOp) (l : List UInt8) : Nat × List UInt8 :=
  if o.kind = 1 then (Ps.beN (view l o.at_ 32), l)
  else if o.kind = 2 then (0, Lf.put l o.at_ (Lf.wordB o.word))
  else if o.kind = 3 then (0, l.set o.at_ (UInt8.ofNat o.word))
  else if o.kind = 4 then (0, if o.len = 0 then l else Lf.put l o.at_ (view l o.from_ o.len))
  else (0, if o.data.length = 0 then l else Lf.put l o.at_ o.data)
def known (o : MOp) : Bool := decide (o.kind = 1 ∨ o.kind = 2 ∨ o.kind = 3 ∨ o.kind = 4 ∨ o.kind = 5)
def run1 (s : St) (o : MOp) : Ans × St :=
  if known o = true then
    match sizeOf s.l.length o with
    | none => (⟨6, 0, 0⟩, s)
    | some m => (⟨0, (act o (grow s m).l).1, price s.l.length m⟩, ⟨(grow s m).gen, (act o (grow s m).l).2⟩)
  else (⟨30, 0, 0⟩, s)
def play : St → List MOp → List Ans × St
  | s, [] => ([], s)
  | s, o :: r => ((run1 s o).1 :: (play (run1 s o).2 r).1, (play (run1 s o).2 r).2)
theorem play_app (s : St) (a b : List MOp) : play s (a ++ b) = ((play s a).1 ++ (play (play s a).2 b).1, (play (play s a).2 b).2) := by
  induction a generalizing s with
  | nil => rfl
  | cons o r ih => simp only [List.cons_append, play, ih]
theorem play_len (s : St) (a : List MOp) : (play s a).1.length = a.length := by
  induction a generalizing s with
  | nil => rfl
  | cons o r ih => simp only [play, List.length_cons, ih]
/-! ### Whole words, no more than may be -/
structure Good (l : List UInt8) : Prop where
  le : l.length ≤ 4096
  m : l.length % 32 = 0
theorem up_ge (n : Nat) : n ≤ up n := by unfold up; omega
theorem up_le {n : Nat} (h : n ≤ 4096) : up n ≤ 4096 := by unfold up; omega
theorem up_mod (n : Nat) : up n % 32 = 0 := by unfold up; omega
theorem need_spec {L a n m : Nat} (hL : L ≤ 4096) (hm : L % 32 = 0) (h : need L a n = some m) : L ≤ m ∧ m ≤ 4096 ∧ m % 32 = 0 ∧ (0 < n → a + n ≤ m) := by
  unfold need at h
  split at h
  · cases h; exact ⟨Nat.le_refl _, hL, hm, fun h => by omega⟩
  · split at h
    · cases h
    · rename_i h1 h2
      cases h
      have h3 := up_ge (a + n)
      have h4 := up_le (n := a + n) (by omega)
      have h5 := up_mod (a + n)
      rcases Nat.le_total L (up (a + n)) with h | h
      · rw [Nat.max_eq_right h]; exact ⟨h, h4, h5, fun _ => h3⟩
      · rw [Nat.max_eq_left h]; exact ⟨Nat.le_refl _, hL, hm, fun _ => by omega⟩
theorem size2_spec {L a f n m : Nat} (hL : L ≤ 4096) (hm : L % 32 = 0) (h : size2 L a f n = some m) : L ≤ m ∧ m ≤ 4096 ∧ m % 32 = 0 ∧ (0 < n → a + n ≤ m ∧ f + n ≤ m) := by
  unfold size2 at h
  split at h
  · rename_i x y hx hy
    cases h
    obtain ⟨x1, x2, x3, x4⟩ := need_spec hL hm hx
    obtain ⟨y1, y2, y3, y4⟩ := need_spec hL hm hy
    rcases Nat.le_total x y with h | h
    · rw [Nat.max_eq_right h]; exact ⟨by omega, by omega, y3, fun h0 => by have := x4 h0; have := y4 h0; omega⟩
    · rw [Nat.max_eq_left h]; exact ⟨by omega, by omega, x3, fun h0 => by have := x4 h0; have := y4 h0; omega⟩
  · cases h
theorem sizeOf_spec {L m : Nat} {o : MOp} (hL : L ≤ 4096) (hm : L % 32 = 0) (h : sizeOf L o = some m) : L ≤ m ∧ m ≤ 4096 ∧ m % 32 = 0 := by
  unfold sizeOf at h
  (repeat' split at h)
  · have := need_spec hL hm h; omega
  · have := need_spec hL hm h; omega
  · have := size2_spec hL hm h; omega
  · have := need_spec hL hm h; omega
theorem grow_len {s : St} {m : Nat} (h : s.l.length ≤ m) : (grow s m).l.length = m := by
  unfold grow
  split
  · omega
  · simp; omega
theorem act_len {o : MOp} {l : List UInt8} {L : Nat} (hm : sizeOf L o = some l.length) (hL : L ≤ 4096) (hM : L % 32 = 0) : (act o l).2.length = l.length := by
  unfold sizeOf at hm
  unfold act
  by_cases h1 : o.kind = 1
  · rw [if_pos h1]
  · rw [if_neg h1]
    by_cases h2 : o.kind = 2
    · rw [if_pos (.inr h2)] at hm
      rw [if_pos h2]
      have := need_spec hL hM hm
      exact Lf.put_len (by rw [Lf.wordB_len]; omega)
    · rw [if_neg h2]
      rw [if_neg (by omega)] at hm
      by_cases h3 : o.kind = 3
      · rw [if_pos h3]; simp
      · rw [if_neg h3] at hm ⊢
        by_cases h4 : o.kind = 4
        · rw [if_pos h4] at hm ⊢
          have := size2_spec hL hM hm
          simp only
          split
          · rfl
          · refine Lf.put_len ?_
            unfold view
            simp only [List.length_take, List.length_drop]; omega
        · rw [if_neg h4] at hm ⊢
          have := need_spec hL hM hm
          simp only
          split
          · rfl
          · exact Lf.put_len (by omega)
theorem run1_good {s : St} (h : Good s.l) (o : MOp) : Good (run1 s o).2.l := by
  unfold run1
  split
  · cases hs : sizeOf s.l.length o with
    | none => exact h
    | some m =>
      obtain ⟨h1, h2, h3⟩ := sizeOf_spec h.le h.m hs
      have hg := grow_len h1
      have ha := act_len (o := o) (l := (grow s m).l) (by rw [hg]; exact hs) h.le h.m
      exact ⟨by simp only; omega, by simp only; omega⟩
  · exact h
theorem run1_ge {s : St} (h : Good s.l) (o : MOp) : s.l.length ≤ (run1 s o).2.l.length := by
  unfold run1
  split
  · cases hs : sizeOf s.l.length o with
    | none => exact Nat.le_refl _
    | some m =>
      obtain ⟨h1, h2, h3⟩ := sizeOf_spec h.le h.m hs
      have hg := grow_len h1
      have ha := act_len (o := o) (l := (grow s m).l) (by rw [hg]; exact hs) h.le h.m
      simp only; omega
  · exact Nat.le_refl _
theorem play_good {s : St} (h : Good s.l) (os : List MOp) : Good (play s os).2.l := by
  induction os generalizing s with
  | nil => exact h
  | cons o r ih => exact ih (run1_good h o)
theorem play_ge {s : St} (h : Good s.l) (os : List MOp) : s.l.length ≤ (play s os).2.l.length := by
  induction os generalizing s with
  | nil => exact Nat.le_refl _
  | cons o r ih => exact Nat.le_trans (run1_ge h o) (ih (run1_good h o))
/-! ### What it costs -/
theorem cost_lt (w : Nat) : cost w ≤ 640 := by
  unfold cost
  split
  · rename_i h
    have : w * w ≤ 128 * 128 := Nat.mul_le_mul h h
    omega
  · omega
theorem cost_mono {a b : Nat} (h : a ≤ b) (hb : b ≤ 128) : cost a ≤ cost b := by
  unfold cost
  rw [if_pos (by omega), if_pos hb]
  have : a * a ≤ b * b := Nat.mul_le_mul h h
  omega
def zero : St := ⟨0, []⟩
theorem zero_good : Good zero.l := ⟨by decide, by decide⟩
end My
end Go.Proofs.Ytgioofknlbdfjaa

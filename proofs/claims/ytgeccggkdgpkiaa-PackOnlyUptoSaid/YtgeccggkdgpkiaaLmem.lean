/- The lifted memory carried on: through a later world; one object that is new or turns; a new box, row or buffer; a store; growth. -/
import Derived.Test.YtgeccggkdgpkiaaLop1
namespace Go.Proofs.Ytgeccggkdgpkiaa
open Go.RowKit Rg
namespace Lf
section
variable {F : Fr0} {g g' : Gh} {w w' : World} {mem : Mem}

theorem RowAt.lt {a : Option Nat} {E sz n c b : Nat} (h : RowAt g w a E sz n c) (hb : a = some b) : b < w.heap.size := by
  obtain ⟨xs, ho⟩ := h.own
  subst hb
  exact (oRow_lt ho b (by simp [Value.ownBlock])).2
theorem BufAt.lt {a : Option Nat} {E sz c b : Nat} {es : List V} (h : BufAt g w a E sz es c) (hb : a = some b) : b < w.heap.size := by
  obtain ⟨xs, ho, _⟩ := h.own
  subst hb
  exact (oRow_lt ho b (by simp [Value.ownBlock])).2
theorem heap_lt {b : Nat} {ob : Obj} (h : w.heap[b]? = some ob) : b < w.heap.size := (Array.getElem?_eq_some_iff.1 h).1
theorem ObjAt.lt {i b o : Nat} {m : M} (h : ObjAt g w i m) (hf : fp g i m b o) : b < w.heap.size := by
  cases h with
  | b hg hb h => obtain ⟨off, h1, _⟩ := hf; rw [hg] at h1; cases h1; exact hb
  | r hg h => obtain ⟨l, c, h1⟩ := hf; rw [hg] at h1; cases h1; exact h.lt rfl
  | w hg h => obtain ⟨l, c, h1⟩ := hf; rw [hg] at h1; cases h1; exact h.lt rfl
  | m hg h => obtain ⟨off, h1⟩ := hf; rw [hg] at h1; cases h1; obtain ⟨_, _, h2, _⟩ := h.own; exact heap_lt h2
  | o hg h => obtain ⟨off, h1⟩ := hf; rw [hg] at h1; cases h1; exact heap_lt h
  | x => exact hf.elim
theorem own_heap {base E sz n : Nat} {v : Value} {xs : List Value} (ho : w.oRow base E sz v n xs) (hh : ∀ b, v.ownBlock = some b → w'.heap[b]? = w.heap[b]?) : w'.oRow base E sz v n xs := by
  refine ⟨ho.1, ?_⟩
  rcases ho.2 with hn | ⟨q, cap, cur, fz, hv, hb0, hq, r⟩
  · exact .inl hn
  · refine .inr ⟨q, cap, cur, fz, hv, hb0, ?_, r⟩
    rw [hh q (by rw [hv]; rfl)]; exact hq
theorem own_block {a : Option Nat} {n c b : Nat} (h : Value.ownBlock (.slice (a.map fun b => ⟨b, 0, none⟩) n c) = some b) : a = some b := by
  cases a with
  | none => simp [Value.ownBlock] at h
  | some b' => simp [Value.ownBlock] at h; rw [h]

theorem ObjAt.mono {i : Nat} {m : M} (h : ObjAt g w i m) (he : Ev g w g' w') (hb : g'.bx i = g.bx i) (hr : g'.rw i = g.rw i)
    (hc : ∀ b o, fp g i m b o → w'.cell? ⟨b, o, none⟩ = w.cell? ⟨b, o, none⟩ ∧ w'.frozen? ⟨b, o, none⟩ = w.frozen? ⟨b, o, none⟩ ∧ (g'.S b o → g.S b o))
    (hh : ∀ b, (∀ o, fp g i m b o) → w'.heap[b]? = w.heap[b]?) : ObjAt g' w' i m := by
  cases h with
  | b hg hlt h =>
    refine .b (hb.trans hg) (Nat.lt_of_lt_of_le hlt he.size) ⟨h.one, fun j u hj => ?_⟩
    obtain ⟨h1, h3, x, h4, h5⟩ := h.at_ j u hj
    obtain ⟨c1, c2, c3⟩ := hc _ _ ⟨_, hg, Nat.le_add_right _ j, Nat.add_lt_add_left (List.getElem?_eq_some_iff.1 hj).1 _⟩
    exact ⟨fun hs => h1 (c3 hs), c2.trans h3, x, c1.trans h4, h5.mono he⟩
  | r hg h =>
    obtain ⟨xs, ho⟩ := h.own
    refine .r (hr.trans hg) ⟨h.pos, ⟨xs, own_heap ho fun b hbb => hh b fun o => ?_⟩, fun b hbb o hoo hs => h.free b hbb o hoo ((hc b o ?_).2.2 hs)⟩
    · obtain rfl := own_block hbb; exact ⟨_, _, hg⟩
    · subst hbb; exact ⟨_, _, hg⟩
  | w hg h =>
    obtain ⟨xs, ho, hx⟩ := h.own
    refine .w (hr.trans hg) ⟨h.pos, h.cells, ⟨xs, own_heap ho fun b hbb => hh b fun o => ?_, fun j u x hu hx' => (hx j u x hu hx').mono he.bare⟩, fun b hbb o hs => h.free b hbb o ((hc b o ?_).2.2 hs)⟩
    · obtain rfl := own_block hbb; exact ⟨_, _, hg⟩
    · subst hbb; exact ⟨_, _, hg⟩
  | m hg h =>
    obtain ⟨en, clock, h1, h2, h3, h4, h5⟩ := h.own
    refine .m (hb.trans hg) ⟨⟨en, clock, (hh _ fun o => ⟨_, hg⟩).trans h1, h2, h3, h4, fun j k v e hj hje => ?_⟩, fun o hs => h.free o ((hc _ o ⟨_, hg⟩).2.2 hs)⟩
    obtain ⟨k1, k2⟩ := h5 j k v e hj hje
    exact ⟨k1, k2.mono he.bare⟩
  | o hg h hS => exact .o (hb.trans hg) ((hh _ fun o => ⟨_, hg⟩).trans h) fun o hs => hS o ((hc _ o ⟨_, hg⟩).2.2 hs)
  | x => exact .x

theorem fp_congr {i b o : Nat} {m : M} (hb : g'.bx i = g.bx i) (hr : g'.rw i = g.rw i) : fp g' i m b o ↔ fp g i m b o := by
  cases m <;> simp only [fp, hb, hr]

/-- Where the object of that number lies, if there is one. -/
def at0 (g : Gh) (mem : Mem) (i b o : Nat) : Prop := ∃ m, aget mem i = some m ∧ fp g i m b o

/-- One object is new, or turns; nothing else does. -/
theorem RelM.step (h : RelM F g mem w) (hk : Kept F g w) {i : Nat} {m' : M} (he : Ev g w g' w') (hos : w'.os = w.os) (htp : w'.tape = w.tape) (hout : w'.output = w.output)
    (hc : ∀ b o, b < w.heap.size → ¬ at0 g mem i b o → w'.cell? ⟨b, o, none⟩ = w.cell? ⟨b, o, none⟩ ∧ w'.frozen? ⟨b, o, none⟩ = w.frozen? ⟨b, o, none⟩ ∧ (g'.S b o → g.S b o))
    (hh : ∀ b, b < w.heap.size → (∀ o, ¬ at0 g mem i b o) → w'.heap[b]? = w.heap[b]?)
    (hbx : ∀ j, j ≠ i → g'.bx j = g.bx j) (hrw : ∀ j, j ≠ i → g'.rw j = g.rw j) (ho : ObjAt g' w' i m') (hf : ∀ b o, fp g' i m' b o → at0 g mem i b o ∨ w.heap.size ≤ b)
    (hfut : ∀ b o, w'.heap.size ≤ b → g'.S b o) : RelM F g' ((i, m') :: mem) w' ∧ Kept F g' w' := by
  have hag : ∀ j, j ≠ i → aget ((i, m') :: mem) j = aget mem j := fun j hj => aget_ne (Ne.symm hj) _ _
  have hai : aget ((i, m') :: mem) i = some m' := aget_self ..
  have hno : ∀ j m b o, j ≠ i → aget mem j = some m → fp g j m b o → ¬ at0 g mem i b o := fun j m b o hj hm hp ⟨m0, h0, hp0⟩ => h.dj j i m m0 b o hj hm h0 hp hp0
  have hwr : ∀ b o, at0 g mem i b o → F.wr b o := fun b o ⟨m0, h0, hp⟩ => h.wr i m0 b o h0 hp
  refine ⟨⟨fun j m hj => ?_, fun j m b o hj hp => ?_, fun j k m n b o hjk hj hk' hp hq => ?_, fun j hj => ?_, fun j hj => ?_, hfut, h.loc.ev he⟩, ⟨hos.trans hk.os, htp.trans hk.tape, hout.trans hk.output, Nat.le_trans hk.size he.size, fun b hlt hB => ?_, fun b o hlt hB => ?_, fun b o hlt hB hs => ?_, fun b o hlt hs => ?_, fun b o hlt hs => ?_⟩⟩
  · by_cases hji : j = i
    · subst hji; rw [hai] at hj; cases hj; exact ho
    · rw [hag j hji] at hj
      exact (h.ob j m hj).mono he (hbx j hji) (hrw j hji) (fun b o hp => hc b o ((h.ob j m hj).lt hp) (hno j m b o hji hj hp)) fun b hp => hh b ((h.ob j m hj).lt (hp 0)) fun o => hno j m b o hji hj (hp o)
  · by_cases hji : j = i
    · subst hji
      rw [hai] at hj; cases hj
      rcases hf b o hp with h1 | h1
      · exact hwr b o h1
      · exact .inl (Nat.le_trans hk.size h1)
    · rw [hag j hji] at hj
      exact h.wr j m b o hj ((fp_congr (hbx j hji) (hrw j hji)).1 hp)
  · have key : ∀ j m, j ≠ i → aget mem j = some m → fp g' j m b o → fp g' i m' b o → False := fun j m hji hj hp hq => by
      have hp' := (fp_congr (hbx j hji) (hrw j hji)).1 hp
      rcases hf b o hq with h1 | h1
      · exact hno j m b o hji hj hp' h1
      · have := (h.ob j m hj).lt hp'; omega
    by_cases hji : j = i
    · subst hji
      rw [hai] at hj; cases hj
      rw [hag k (Ne.symm hjk)] at hk'
      exact key k n (Ne.symm hjk) hk' hq hp
    · rw [hag j hji] at hj
      by_cases hki : k = i
      · subst hki
        rw [hai] at hk'; cases hk'
        exact key j m hji hj hp hq
      · rw [hag k hki] at hk'
        exact h.dj j k m n b o hjk hj hk' ((fp_congr (hbx j hji) (hrw j hji)).1 hp) ((fp_congr (hbx k hki) (hrw k hki)).1 hq)
  · by_cases hji : j = i
    · subst hji; rw [hai] at hj; cases hj
    · rw [hag j hji] at hj; rw [hbx j hji]; exact h.nbx j hj
  · by_cases hji : j = i
    · subst hji; rw [hai] at hj; cases hj
    · rw [hag j hji] at hj; rw [hrw j hji]; exact h.nrw j hj
  · refine (hh b (Nat.lt_of_lt_of_le hlt hk.size) fun o hp => ?_).trans (hk.blk b hlt hB)
    rcases hwr b o hp with h1 | h1
    · omega
    · exact hB o h1
  · obtain ⟨k1, k2⟩ := hk.cell b o hlt hB
    obtain ⟨c1, c2, _⟩ := hc b o (Nat.lt_of_lt_of_le hlt hk.size) fun hp => (hwr b o hp).elim (fun h1 => by omega) hB
    exact ⟨c1.trans k1, c2.trans k2⟩
  · exact hk.S1 b o hlt hB ((hc b o (Nat.lt_of_lt_of_le hlt hk.size) fun hp => (hwr b o hp).elim (fun h1 => by omega) hB).2.2 hs)
  · exact (he.st b o (Nat.lt_of_lt_of_le hlt hk.size) (hk.S2 b o hlt hs)).1
  · exact (he.st b o (Nat.lt_of_lt_of_le hlt hk.size) (hk.S2 b o hlt hs)).2.trans (hk.cellS b o hlt hs)

/-- A later world, every old block kept; the ghost knows more of new blocks alone. -/
theorem RelM.ext (h : RelM F g mem w) (hk : Kept F g w) (hx : Ext w w') (hS : ∀ b o, b < w.heap.size → (g'.S b o ↔ g.S b o)) (hb : g'.bx = g.bx) (hr : g'.rw = g.rw) (hf : ∀ b o, w'.heap.size ≤ b → g'.S b o) :
    Ev g w g' w' ∧ RelM F g' mem w' ∧ Kept F g' w' := by
  have hcell : ∀ b o, b < w.heap.size → w'.cell? ⟨b, o, none⟩ = w.cell? ⟨b, o, none⟩ := fun b o hb => Below.cell hx (p := ⟨b, o, none⟩) hb
  have hfro : ∀ b o, b < w.heap.size → w'.frozen? ⟨b, o, none⟩ = w.frozen? ⟨b, o, none⟩ := fun b o hb => Below.frozen hx (p := ⟨b, o, none⟩) hb
  have he : Ev g w g' w' := ⟨hx.size, fun b o hb hs => ⟨(hS b o hb).2 hs, hcell b o hb⟩, fun i z hz => by rw [hb]; exact hz, fun r a l c h => ⟨a, l, c, by rw [hr]; exact h, Nat.le_refl _, fun _ => ⟨rfl, rfl⟩⟩⟩
  have hfp : ∀ i m b o, fp g' i m b o ↔ fp g i m b o := fun i m b o => fp_congr (by rw [hb]) (by rw [hr])
  refine ⟨he, ⟨fun i m hi => ?_, fun i m b o hi hp => h.wr i m b o hi ((hfp i m b o).1 hp), fun i j m n b o hij hi hj hp hq => h.dj i j m n b o hij hi hj ((hfp _ _ _ _).1 hp) ((hfp _ _ _ _).1 hq), by rw [hb]; exact h.nbx, by rw [hr]; exact h.nrw, hf, h.loc.ev he⟩, ?_⟩
  · exact (h.ob i m hi).mono he (by rw [hb]) (by rw [hr]) (fun b o hp => ⟨hcell b o ((h.ob i m hi).lt hp), hfro b o ((h.ob i m hi).lt hp), (hS b o ((h.ob i m hi).lt hp)).1⟩) fun b hp => hx.block b ((h.ob i m hi).lt (hp 0))
  · refine ⟨hx.os.trans hk.os, hx.tape.trans hk.tape, hx.output.trans hk.output, Nat.le_trans hk.size hx.size, fun b hlt hB => (hx.block b (Nat.lt_of_lt_of_le hlt hk.size)).trans (hk.blk b hlt hB), fun b o hlt hB => ?_, fun b o hlt hB hs => ?_, fun b o hlt hs => ?_, fun b o hlt hs => (hcell b o (Nat.lt_of_lt_of_le hlt hk.size)).trans (hk.cellS b o hlt hs)⟩
    · obtain ⟨k1, k2⟩ := hk.cell b o hlt hB
      have hlt' := Nat.lt_of_lt_of_le hlt hk.size
      exact ⟨(hcell b o hlt').trans k1, (hfro b o hlt').trans k2⟩
    · exact hk.S1 b o hlt hB ((hS b o (Nat.lt_of_lt_of_le hlt hk.size)).1 hs)
    · exact (hS b o (Nat.lt_of_lt_of_le hlt hk.size)).2 (hk.S2 b o hlt hs)

theorem RelM.congr {mem' : Mem} (h : RelM F g mem w) (he : ∀ i, aget mem i = aget mem' i) : RelM F g mem' w :=
  ⟨fun j m hj => h.ob j m (by rw [he]; exact hj), fun j m b o hj => h.wr j m b o (by rw [he]; exact hj), fun j k m n b o hjk hj hk => h.dj j k m n b o hjk (by rw [he]; exact hj) (by rw [he]; exact hk),
    fun j hj => h.nbx j (by rw [he]; exact hj), fun j hj => h.nrw j (by rw [he]; exact hj), h.fut, h.loc⟩

/-- The ghost behind a new object i, which lies in the new block H, of which the first n cells stay. -/
def Gh.newB (g : Gh) (i H n : Nat) : Gh := ⟨fun b o => g.S b o ∧ (b = H → o < n), fun j => if j = i then some (H, 0) else g.bx j, g.rw⟩
def Gh.newR (g : Gh) (i H n l c : Nat) : Gh := ⟨fun b o => g.S b o ∧ (b = H → o < n), g.bx, fun j => if j = i then some (some H, l, c) else g.rw j⟩
theorem Ev.newB {i n : Nat} (o : Obj) (hn : g.bx i = none) : Ev g w (g.newB i w.heap.size n) (w.alloc o) :=
  ⟨by simp, fun b o hb hs => ⟨⟨hs, fun e => by omega⟩, Below.cell ((Below.refl w.heap.size w).alloc (Nat.le_refl _) _) (p := ⟨b, o, none⟩) hb⟩, fun j z hz => by
    simp only [Gh.newB]
    split
    · rename_i e; subst e; rw [hn] at hz; cases hz
    · exact hz, fun r a l c h => ⟨a, l, c, h, Nat.le_refl _, fun _ => ⟨rfl, rfl⟩⟩⟩
theorem Ev.newR {i n l c : Nat} (o : Obj) (hn : g.rw i = none) : Ev g w (g.newR i w.heap.size n l c) (w.alloc o) :=
  ⟨by simp, fun b o hb hs => ⟨⟨hs, fun e => by omega⟩, Below.cell ((Below.refl w.heap.size w).alloc (Nat.le_refl _) _) (p := ⟨b, o, none⟩) hb⟩, fun j z hz => hz, fun r a l' c' h => ⟨a, l', c', by
    simp only [Gh.newR]
    split
    · rename_i e; subst e; rw [hn] at h; cases h
    · exact h, Nat.le_refl _, fun _ => ⟨rfl, rfl⟩⟩⟩
theorem at0_none {i b o : Nat} (hi : aget mem i = none) : ¬ at0 g mem i b o := fun ⟨m, h, _⟩ => by rw [hi] at h; cases h
theorem alloc_old (o : Obj) {b : Nat} (hb : b < w.heap.size) : (∀ o', (w.alloc o).cell? ⟨b, o', none⟩ = w.cell? ⟨b, o', none⟩ ∧ (w.alloc o).frozen? ⟨b, o', none⟩ = w.frozen? ⟨b, o', none⟩) ∧ (w.alloc o).heap[b]? = w.heap[b]? := by
  have hx : Ext w (w.alloc o) := (Below.refl w.heap.size w).alloc (Nat.le_refl _) o
  exact ⟨fun o' => ⟨Below.cell hx (p := ⟨b, o', none⟩) hb, Below.frozen hx (p := ⟨b, o', none⟩) hb⟩, hx.block b hb⟩

/-- A new object in a new block. -/
theorem RelM.newB (h : RelM F g mem w) (hk : Kept F g w) {i n : Nat} {m' : M} {o : Obj} (hi : aget mem i = none) (ho : ObjAt (g.newB i w.heap.size n) (w.alloc o) i m') (hf : ∀ b o', fp (g.newB i w.heap.size n) i m' b o' → b = w.heap.size) :
    Ev g w (g.newB i w.heap.size n) (w.alloc o) ∧ RelM F (g.newB i w.heap.size n) ((i, m') :: mem) (w.alloc o) ∧ Kept F (g.newB i w.heap.size n) (w.alloc o) := by
  have he := Ev.newB (w := w) (n := n) o (h.nbx i hi)
  exact ⟨he, h.step hk he rfl rfl rfl (fun b o' hb _ => ⟨((alloc_old o hb).1 o').1, ((alloc_old o hb).1 o').2, fun hs => hs.1⟩) (fun b hb _ => (alloc_old o hb).2) (fun j hj => by simp [Gh.newB, hj]) (fun j _ => rfl) ho (fun b o' hp => .inr (by rw [hf b o' hp]; exact Nat.le_refl _))
    fun b o' hb => ⟨h.fut b o' (by simp at hb; omega), fun e => by simp at hb; omega⟩⟩
theorem RelM.newR (h : RelM F g mem w) (hk : Kept F g w) {i n l c : Nat} {m' : M} {o : Obj} (hi : aget mem i = none) (ho : ObjAt (g.newR i w.heap.size n l c) (w.alloc o) i m') (hf : ∀ b o', fp (g.newR i w.heap.size n l c) i m' b o' → b = w.heap.size) :
    Ev g w (g.newR i w.heap.size n l c) (w.alloc o) ∧ RelM F (g.newR i w.heap.size n l c) ((i, m') :: mem) (w.alloc o) ∧ Kept F (g.newR i w.heap.size n l c) (w.alloc o) := by
  have he := Ev.newR (w := w) (n := n) (l := l) (c := c) o (h.nrw i hi)
  exact ⟨he, h.step hk he rfl rfl rfl (fun b o' hb _ => ⟨((alloc_old o hb).1 o').1, ((alloc_old o hb).1 o').2, fun hs => hs.1⟩) (fun b hb _ => (alloc_old o hb).2) (fun j _ => rfl) (fun j hj => by simp [Gh.newR, hj]) ho (fun b o' hp => .inr (by rw [hf b o' hp]; exact Nat.le_refl _))
    fun b o' hb => ⟨h.fut b o' (by simp at hb; omega), fun e => by simp at hb; omega⟩⟩

/-- A new box. -/
theorem RelM.newBox (h : RelM F g mem w) (hk : Kept F g w) {i T : Nat} {cs : List V} {xs : Array Value} (hi : aget mem i = none) (hl : cs.length = xs.size) (h1 : ∀ u ∈ cs, u.one = true)
    (hr : ∀ (j : Nat) u x, cs[j]? = some u → xs[j]? = some x → Rep w g u x) :
    ∃ g', g'.bx i = some (w.heap.size, 0) ∧ Ev g w g' (w.alloc (.cells xs T)) ∧ RelM F g' ((i, .b cs) :: mem) (w.alloc (.cells xs T)) ∧ Kept F g' (w.alloc (.cells xs T)) := by
  have hbi : (g.newB i w.heap.size 0).bx i = some (w.heap.size, 0) := by simp [Gh.newB]
  have he := Ev.newB (w := w) (n := 0) (.cells xs T) (h.nbx i hi)
  refine ⟨_, hbi, h.newB hk hi (.b hbi (by simp) ⟨h1, fun j u hj => ?_⟩) fun b o' ⟨off, hp, _⟩ => by rw [hbi] at hp; cases hp; rfl⟩
  have hjl := (List.getElem?_eq_some_iff.1 hj).1
  have hx : xs[j]? = some xs[j] := Array.getElem?_eq_getElem (by omega)
  refine ⟨fun hs => by have := hs.2 rfl; omega, by rw [World.frozen?_alloc_at _ _ _ _ rfl], xs[j], ?_, (hr j u _ hj hx).mono he⟩
  rw [World.cell?_alloc_at _ _ _ _ rfl, Nat.zero_add, hx]

theorem cells_choose {p : Nat → Value → Prop} : ∀ (n : Nat), (∀ j, j < n → ∃ x, p j x) → ∃ xs : List Value, xs.length = n ∧ ∀ j x, xs[j]? = some x → p j x
  | 0, _ => ⟨[], rfl, by simp⟩
  | n + 1, h => by
    obtain ⟨xs, hl, hx⟩ := cells_choose n fun j hj => h j (by omega)
    obtain ⟨x, hp⟩ := h n (by omega)
    refine ⟨xs ++ [x], by simp [hl], fun j y hj => ?_⟩
    rcases Nat.lt_or_ge j xs.length with hlt | hge
    · rw [List.getElem?_append_left hlt] at hj; exact hx j y hj
    · rw [List.getElem?_append_right hge] at hj
      have : j - xs.length = 0 := by
        have := (List.getElem?_eq_some_iff.1 hj).1; simp at this; omega
      rw [this] at hj
      simp at hj
      obtain rfl : j = n := by omega
      subst hj; exact hp

/-- What a box holds, by the model's cells. -/
theorem BoxAt.vals {b off : Nat} {cs : List V} (h : BoxAt g w b off cs) : ∃ xs : List Value, xs.length = cs.length ∧ w.rangeAt b off xs ∧ ∀ (j : Nat) u x, cs[j]? = some u → xs[j]? = some x → Rep w g u x := by
  obtain ⟨xs, hl, hx⟩ := cells_choose (p := fun j x => w.cell? ⟨b, off + j, none⟩ = some x ∧ ∀ u, cs[j]? = some u → Rep w g u x) cs.length fun j hj => by
    obtain ⟨_, _, x, hc, hr⟩ := h.at_ j cs[j] (List.getElem?_eq_getElem hj)
    exact ⟨x, hc, fun u hu => by rw [List.getElem?_eq_getElem hj] at hu; cases hu; exact hr⟩
  exact ⟨xs, hl, fun j v hv => (hx j v hv).1, fun j u x hu hj => (hx j x hj).2 u hu⟩
theorem RelM.box (h : RelM F g mem w) {i : Nat} {cs : List V} (hi : aget mem i = some (.b cs)) : ∃ b off, g.bx i = some (b, off) ∧ b < w.heap.size ∧ BoxAt g w b off cs := by
  cases h.ob i _ hi with
  | b hg hb h => exact ⟨_, _, hg, hb, h⟩
theorem RelM.row (h : RelM F g mem w) {i E sz n : Nat} (hi : aget mem i = some (.r E sz n)) : ∃ a c, g.rw i = some (a, n, c) ∧ RowAt g w a E sz n c := by
  cases h.ob i _ hi with
  | r hg h => exact ⟨_, _, hg, h⟩
theorem RelM.buf (h : RelM F g mem w) {i E sz gen : Nat} {es : List V} (hi : aget mem i = some (.w E sz gen es)) : ∃ a c, g.rw i = some (a, gen, c) ∧ BufAt g w a E sz es c := by
  cases h.ob i _ hi with
  | w hg h => exact ⟨_, _, hg, h⟩
theorem RelM.map (h : RelM F g mem w) {i : Nat} {es : List (Value × V)} (hi : aget mem i = some (.m es)) : ∃ b off, g.bx i = some (b, off) ∧ MapAt g w b es := by
  cases h.ob i _ hi with
  | m hg h => exact ⟨_, _, hg, h⟩

def splice (cs : List V) (o : Nat) (us : List V) : List V := cs.take o ++ us ++ cs.drop (o + us.length)
theorem splice_len {cs us : List V} {o : Nat} (h : o + us.length ≤ cs.length) : (splice cs o us).length = cs.length := by simp [splice]; omega
theorem splice_get {cs us : List V} {o j : Nat} (h : o + us.length ≤ cs.length) : (splice cs o us)[j]? = if o ≤ j ∧ j < o + us.length then us[j - o]? else cs[j]? := by
  unfold splice
  split
  · rename_i hj
    rw [List.append_assoc, List.getElem?_append_right (by simp; omega), List.getElem?_append_left (by simp; omega)]
    congr 1; simp; omega
  · rename_i hj
    rcases Nat.lt_or_ge j o with hlt | hge
    · rw [List.append_assoc, List.getElem?_append_left (by simp; omega), List.getElem?_take, if_pos hlt]
    · rw [List.getElem?_append_right (by simp; omega), List.getElem?_drop]
      congr 1; simp; omega

theorem setCells_facts (b : Nat) : ∀ (vs : List Value) (o : Nat) (w : World), (w.setCells b o vs).os = w.os ∧ (w.setCells b o vs).tape = w.tape ∧ (w.setCells b o vs).output = w.output ∧ (w.setCells b o vs).heap.size = w.heap.size ∧ ∀ k, k ≠ b → (w.setCells b o vs).heap[k]? = w.heap[k]?
  | [], _, _ => ⟨rfl, rfl, rfl, rfl, fun _ _ => rfl⟩
  | v :: r, o, w => by
    obtain ⟨h1, h2, h3, h4, h5⟩ := setCells_facts b r (o + 1) (w.setCell ⟨b, o, none⟩ v)
    rw [World.setCells]
    exact ⟨h1, h2, h3, by rw [h4]; simp [World.setCell], fun k hk => by rw [h5 k hk]; exact Below.heap_setCell _ _ _ _ hk⟩

/-- Cells of one object are written over: what that leaves. -/
theorem RelM.setC (h : RelM F g mem w) (hk : Kept F g w) {i b o : Nat} {m m' : M} {xs : List Value} (hi : aget mem i = some m) (hin : ∀ k, k < xs.length → fp g i m b (o + k)) (hnS : ∀ k, k < xs.length → ¬ g.S b (o + k)) (hlt : b < w.heap.size)
    (ho : ObjAt g (w.setCells b o xs) i m') (hf : ∀ b o, fp g i m' b o → fp g i m b o) :
    Ev g w g (w.setCells b o xs) ∧ RelM F g ((i, m') :: mem) (w.setCells b o xs) ∧ Kept F g (w.setCells b o xs) := by
  obtain ⟨f1, f2, f3, f4, f5⟩ := setCells_facts b xs o w
  have hout : ∀ b0 o0, (b0 = b → o0 < o ∨ o + xs.length ≤ o0) → (w.setCells b o xs).cell? ⟨b0, o0, none⟩ = w.cell? ⟨b0, o0, none⟩ := fun b0 o0 hh =>
    World.cell?_setCells_out b xs o w ⟨b0, o0, none⟩ fun e _ => hh e
  have hfro : ∀ x, (w.setCells b o xs).frozen? x = w.frozen? x := fun x => World.frozen?_setCells b xs o w x
  have key : ∀ b0 o0, (∀ k, k < xs.length → ¬ (b0 = b ∧ o0 = o + k)) → (b0 = b → o0 < o ∨ o + xs.length ≤ o0) := fun b0 o0 hh e => by
    rcases Nat.lt_or_ge o0 o with h' | h'
    · exact .inl h'
    · rcases Nat.lt_or_ge o0 (o + xs.length) with h'' | h''
      · exact absurd ⟨e, by omega⟩ (hh (o0 - o) (by omega))
      · exact .inr h''
  have he : Ev g w g (w.setCells b o xs) := ⟨by omega, fun b0 o0 hlt hs => ⟨hs, hout b0 o0 (key b0 o0 fun k hk' ⟨e1, e2⟩ => by subst e1; subst e2; exact hnS k hk' hs)⟩, fun _ _ hz => hz, fun r a l c hh => ⟨a, l, c, hh, Nat.le_refl _, fun _ => ⟨rfl, rfl⟩⟩⟩
  refine ⟨he, h.step hk he f1 f2 f3 (fun b0 o0 _ hn => ⟨hout b0 o0 (key b0 o0 fun k hk' ⟨e1, e2⟩ => by subst e1; subst e2; exact hn ⟨m, hi, hin k hk'⟩), hfro _, fun hs => hs⟩) (fun b0 _ hn => ?_) (fun _ _ => rfl) (fun _ _ => rfl) ho (fun b0 o0 hp => .inl ⟨m, hi, hf b0 o0 hp⟩) fun b0 o0 hb0 => h.fut b0 o0 (by omega)⟩
  rcases Nat.eq_zero_or_pos xs.length with h0 | h0
  · have : xs = [] := List.eq_nil_of_length_eq_zero h0
    subst this; rfl
  · exact f5 b0 fun e => hn (o + 0) ⟨m, hi, e ▸ hin 0 h0⟩

/-- A store into a box. -/
theorem RelM.store (h : RelM F g mem w) (hk : Kept F g w) {i b off o : Nat} {cs us : List V} {xs : List Value} (hi : aget mem i = some (.b cs)) (hb : g.bx i = some (b, off)) (hlen : o + us.length ≤ cs.length) (hl : us.length = xs.length) (h1 : ∀ u ∈ us, u.one = true)
    (hr : ∀ (j : Nat) u x, us[j]? = some u → xs[j]? = some x → Rep w g u x) :
    w.there b (off + o) xs.length ∧ Ev g w g (w.setCells b (off + o) xs) ∧ RelM F g ((i, .b (splice cs o us)) :: mem) (w.setCells b (off + o) xs) ∧ Kept F g (w.setCells b (off + o) xs) := by
  obtain ⟨b', off', e1, hlt, hB⟩ := h.box hi
  rw [hb] at e1; cases e1
  have hthere : w.there b (off + o) xs.length := fun j hj => by
    obtain ⟨_, h3, x, h4, _⟩ := hB.at_ (o + j) cs[o + j] (List.getElem?_eq_getElem (by omega))
    rw [Nat.add_assoc]
    exact ⟨by rw [h4]; rfl, h3⟩
  have hsl : (splice cs o us).length = cs.length := splice_len hlen
  have hin : ∀ k, k < xs.length → fp g i (.b cs) b (off + o + k) := fun k hk' => ⟨off, hb, by omega, by omega⟩
  have hnS : ∀ k, k < xs.length → ¬ g.S b (off + o + k) := fun k hk' => by
    obtain ⟨a1, _⟩ := hB.at_ (o + k) cs[o + k] (List.getElem?_eq_getElem (by omega))
    rw [Nat.add_assoc]; exact a1
  have hout : ∀ b0 o0, (b0 = b → o0 < off + o ∨ off + o + xs.length ≤ o0) → (w.setCells b (off + o) xs).cell? ⟨b0, o0, none⟩ = w.cell? ⟨b0, o0, none⟩ := fun b0 o0 hh =>
    World.cell?_setCells_out b xs (off + o) w ⟨b0, o0, none⟩ fun e _ => hh e
  have he : Ev g w g (w.setCells b (off + o) xs) := by
    obtain ⟨f1, f2, f3, f4, f5⟩ := setCells_facts b xs (off + o) w
    refine ⟨by omega, fun b0 o0 hlt hs => ⟨hs, hout b0 o0 fun e => ?_⟩, fun _ _ hz => hz, fun r a l c hh => ⟨a, l, c, hh, Nat.le_refl _, fun _ => ⟨rfl, rfl⟩⟩⟩
    subst e
    rcases Nat.lt_or_ge o0 (off + o) with h' | h'
    · exact .inl h'
    · rcases Nat.lt_or_ge o0 (off + o + xs.length) with h'' | h''
      · have := hnS (o0 - (off + o)) (by omega)
        rw [show off + o + (o0 - (off + o)) = o0 from by omega] at this
        exact absurd hs this
      · exact .inr h''
  refine ⟨hthere, h.setC hk hi hin hnS hlt (.b hb (by rw [(setCells_facts b xs (off + o) w).2.2.2.1]; exact hlt) ⟨fun u hu => ?_, fun j u hj => ?_⟩) fun b0 o0 ⟨off0, p1, p2, p3⟩ => ⟨off0, p1, p2, by rw [hsl] at p3; exact p3⟩⟩
  · obtain ⟨k, hk'⟩ := List.getElem?_of_mem hu
    rw [splice_get hlen] at hk'
    split at hk'
    · exact h1 u (List.mem_of_getElem? hk')
    · exact hB.one u (List.mem_of_getElem? hk')
  · have hjl : j < cs.length := by have := (List.getElem?_eq_some_iff.1 hj).1; omega
    obtain ⟨a1, a3, x, a4, a5⟩ := hB.at_ j cs[j] (List.getElem?_eq_getElem hjl)
    refine ⟨a1, by rw [World.frozen?_setCells b xs (off + o) w]; exact a3, ?_⟩
    rw [splice_get hlen] at hj
    split at hj
    · rename_i hin
      have hx : xs[j - o]? = some xs[j - o] := List.getElem?_eq_getElem (by omega)
      refine ⟨xs[j - o], ?_, (hr (j - o) u _ hj hx).mono he⟩
      have := World.cell?_setCells_in b xs (off + o) w (fun k hk' => (hthere k hk').1) (j - o) (by omega)
      rw [show off + o + (j - o) = off + j from by omega] at this
      exact this
    · rename_i hin
      rw [List.getElem?_eq_getElem hjl] at hj
      cases hj
      exact ⟨x, by rw [hout _ _ fun _ => by omega]; exact a4, a5.mono he⟩

/-- The ghost behind a row's growth in its place. -/
def Gh.more (g : Gh) (i : Nat) (a : Option Nat) (l c k : Nat) : Gh := ⟨fun b o => g.S b o ∨ (a = some b ∧ o < k), g.bx, fun j => if j = i then some (a, l, c) else g.rw j⟩

theorem own_cell {E sz n c b : Nat} {xs : List Value} (h : w.oRow 0 E sz (.slice (some ⟨b, 0, none⟩) n c) n xs) {o : Nat} (ho : o < xs.length) : w.cell? ⟨b, o, none⟩ = some xs[o] := by
  have := oRow_cells h (g := b) rfl o xs[o] (List.getElem?_eq_getElem ho)
  rw [Addr.add_lit, Nat.zero_add] at this
  exact this

/-- What append leaves: in its place, or in a new block. -/
def AppR (w w' : World) (a : Option Nat) (n c : Nat) (v' : Value) (m : Nat) : Prop :=
  v' = .slice (a.map fun b => ⟨b, 0, none⟩) (n + m) c ∨ (0 < m ∧ ∃ c', v' = .slice (some ⟨w.heap.size, 0, none⟩) (n + m) c' ∧ w.heap.size < w'.heap.size ∧ ∀ k, k < w.heap.size → w'.heap[k]? = w.heap[k]?)

/-- A row or a buffer that grows, at i: K is how many cells of it stay behind that. -/
theorem RelM.grown (h : RelM F g mem w) (hk : Kept F g w) {i E sz n m : Nat} {a : Option Nat} {l0 c : Nat} {v' : Value} {xs news : List Value} {m0 : M} (hi : aget mem i = some m0) (hm0 : ∀ b o, fp g i m0 b o ↔ ∃ l c, g.rw i = some (some b, l, c)) (ha : g.rw i = some (a, l0, c)) (l1 K : Nat) (hl : l0 ≤ l1) (hl1 : 0 < m → l0 < l1)
    (hown : w'.oRow 0 E sz v' (n + m) (xs ++ news)) (hg : w.grownBy w' (Value.ownBlock (.slice (a.map fun b => ⟨b, 0, none⟩) n c)))
    (hst : ∀ b o, a = some b → g.S b o → w'.cell? ⟨b, o, none⟩ = w.cell? ⟨b, o, none⟩)
    (hv : AppR w w' a n c v' m) (m1 : M) (hm1 : ∀ (g' : Gh) b o, fp g' i m1 b o → ∃ l c, g'.rw i = some (some b, l, c))
    (ho : ∀ a' c' g', v' = .slice (Option.map (fun b => ⟨b, 0, none⟩) a') (n + m) c' → g'.rw i = some (a', l1, c') → Ev g w g' w' → (∀ b o, a' = some b → K ≤ o → g'.S b o → a' = a ∧ g.S b o) → ObjAt g' w' i m1) :
    ∃ g' a' c', v' = .slice (Option.map (fun b => ⟨b, 0, none⟩) a') (n + m) c' ∧ g'.rw i = some (a', l1, c') ∧ Ev g w g' w' ∧ RelM F g' ((i, m1) :: mem) w' ∧ Kept F g' w' ∧
      (∀ b, a' = some b → b < w'.heap.size ∧ ∀ o, o < K → g'.S b o) := by
  have hat : ∀ b o, at0 g mem i b o ↔ a = some b := fun b o => by
    constructor
    · rintro ⟨m2, h2, h3⟩
      rw [hi] at h2; cases h2
      obtain ⟨l, c1, h4⟩ := (hm0 b o).1 h3
      rw [ha] at h4; cases h4; rfl
    · rintro rfl; exact ⟨m0, hi, (hm0 b o).2 ⟨_, _, ha⟩⟩
  rcases hv with rfl | ⟨hm, c', rfl, hlt, hold⟩
  · have hother : ∀ k, k < w.heap.size → a ≠ some k → w'.heap[k]? = w.heap[k]? := fun k hk' hne => hg.block k hk' (by
      cases a with
      | none => simp [Value.ownBlock]
      | some b => simp [Value.ownBlock]; intro e; exact hne (by rw [e]))
    have hoc : ∀ b o, b < w.heap.size → a ≠ some b → w'.cell? ⟨b, o, none⟩ = w.cell? ⟨b, o, none⟩ ∧ w'.frozen? ⟨b, o, none⟩ = w.frozen? ⟨b, o, none⟩ := fun b o hb hne =>
      ⟨World.cell?_of_block (hother b hb hne), World.frozen?_of_block (hother b hb hne)⟩
    have hrwi : (g.more i a l1 c K).rw i = some (a, l1, c) := by simp [Gh.more]
    have hrwj : ∀ j, j ≠ i → (g.more i a l1 c K).rw j = g.rw j := fun j hj => by simp [Gh.more, hj]
    have he : Ev g w (g.more i a l1 c K) w' := by
      refine ⟨hg.size, fun b o hb hs => ⟨.inl hs, ?_⟩, fun _ _ hz => hz, fun r a1 l1' c1 hr => ?_⟩
      · by_cases hab : a = some b
        · exact hst b o hab hs
        · exact (hoc b o hb hab).1
      · by_cases hri : r = i
        · subst hri
          rw [ha] at hr; cases hr
          exact ⟨_, _, _, hrwi, hl, fun _ => ⟨rfl, rfl⟩⟩
        · exact ⟨a1, l1', c1, by rw [hrwj r hri]; exact hr, Nat.le_refl _, fun _ => ⟨rfl, rfl⟩⟩
    have hob := ho a c _ rfl hrwi he fun b o hb hK hs => ⟨rfl, hs.elim id fun hh => by omega⟩
    obtain ⟨k1, k2⟩ := h.step hk he hg.os hg.tape hg.output (fun b o hb hn => have hne : a ≠ some b := fun e => hn ((hat b o).2 e); ⟨(hoc b o hb hne).1, (hoc b o hb hne).2, fun hs => hs.elim id fun hh => absurd hh.1 hne⟩) (fun b hb hn => hother b hb fun e => hn 0 ((hat b 0).2 e)) (fun _ _ => rfl) hrwj hob (fun b o hp => by
      obtain ⟨l, c1, hp⟩ := hm1 _ b o hp
      rw [hrwi] at hp; cases hp
      exact .inl ((hat b o).2 rfl)) fun b0 o0 hb0 => .inl (h.fut b0 o0 (by have := hg.size; omega))
    refine ⟨_, a, c, rfl, hrwi, he, k1, k2, fun b hb => ⟨?_, fun o ho => .inr ⟨hb, ho⟩⟩⟩
    subst hb
    exact (oRow_lt hown b (by simp [Value.ownBlock])).2
  · have hoc : ∀ b o, b < w.heap.size → w'.cell? ⟨b, o, none⟩ = w.cell? ⟨b, o, none⟩ ∧ w'.frozen? ⟨b, o, none⟩ = w.frozen? ⟨b, o, none⟩ := fun b o hb =>
      ⟨World.cell?_of_block (hold b hb), World.frozen?_of_block (hold b hb)⟩
    have hrwi : (g.newR i w.heap.size K l1 c').rw i = some (some w.heap.size, l1, c') := by simp [Gh.newR]
    have hrwj : ∀ j, j ≠ i → (g.newR i w.heap.size K l1 c').rw j = g.rw j := fun j hj => by simp [Gh.newR, hj]
    have hlt1 := hl1 hm
    have he : Ev g w (g.newR i w.heap.size K l1 c') w' := by
      refine ⟨hg.size, fun b o hb hs => ⟨⟨hs, fun e => by omega⟩, (hoc b o hb).1⟩, fun _ _ hz => hz, fun r a1 l1' c1 hr => ?_⟩
      by_cases hri : r = i
      · subst hri
        rw [ha] at hr; cases hr
        exact ⟨_, _, _, hrwi, hl, fun _ => by omega⟩
      · exact ⟨a1, l1', c1, by rw [hrwj r hri]; exact hr, Nat.le_refl _, fun _ => ⟨rfl, rfl⟩⟩
    have hob := ho (some w.heap.size) c' _ rfl hrwi he fun b o hb hK hs => by cases hb; have := hs.2 rfl; omega
    obtain ⟨k1, k2⟩ := h.step hk he hg.os hg.tape hg.output (fun b o hb _ => ⟨(hoc b o hb).1, (hoc b o hb).2, fun hs => hs.1⟩) (fun b hb _ => hold b hb) (fun _ _ => rfl) hrwj hob (fun b o hp => by
      obtain ⟨l, c1, hp⟩ := hm1 _ b o hp
      rw [hrwi] at hp; cases hp
      exact .inr (Nat.le_refl _)) fun b0 o0 hb0 => ⟨h.fut b0 o0 (by omega), fun e => by omega⟩
    exact ⟨_, some w.heap.size, c', rfl, hrwi, he, k1, k2, fun b hb => by cases hb; exact ⟨hlt, fun o ho => ⟨h.fut _ o (Nat.le_refl _), fun _ => ho⟩⟩⟩

/-- A row that grows: what it had it has, behind it what was appended. -/
theorem RelM.grow (h : RelM F g mem w) (hk : Kept F g w) {i E sz n m : Nat} {a : Option Nat} {c : Nat} {v' : Value} {xs news : List Value} (hi : aget mem i = some (.r E sz n)) (ha : g.rw i = some (a, n, c))
    (hown0 : w.oRow 0 E sz (.slice (a.map fun b => ⟨b, 0, none⟩) n c) n xs) (hown : w'.oRow 0 E sz v' (n + m) (xs ++ news)) (hg : w.grownBy w' (Value.ownBlock (.slice (a.map fun b => ⟨b, 0, none⟩) n c)))
    (hv : AppR w w' a n c v' m) :
    ∃ g' a' c', v' = .slice (Option.map (fun b => ⟨b, 0, none⟩) a') (n + m) c' ∧ g'.rw i = some (a', n + m, c') ∧ Ev g w g' w' ∧ RelM F g' ((i, .r E sz (n + m)) :: mem) w' ∧ Kept F g' w' ∧
      (∀ b, a' = some b → b < w'.heap.size ∧ ∀ o, o < (n + m) * sz → g'.S b o) := by
  obtain ⟨a0, c0, e1, hR⟩ := h.row hi
  rw [ha] at e1; cases e1
  obtain ⟨hsz, _, hfree⟩ := hR
  have hle : n * sz ≤ (n + m) * sz := Nat.mul_le_mul_right _ (by omega)
  refine h.grown hk hi (fun b o => Iff.rfl) ha (n + m) ((n + m) * sz) (by omega) (fun hm => by omega) hown hg (fun b o hab hs => ?_) hv (.r E sz (n + m)) (fun _ _ _ hp => hp) fun a' c' g' hv' hrw he hfr => .r hrw ⟨hsz, ⟨_, hv' ▸ hown⟩, fun b hb o ho hs => ?_⟩
  · subst hab
    have hlo : o < n * sz := by
      rcases Nat.lt_or_ge o (n * sz) with h' | h'
      · exact h'
      · exact absurd hs (hfree b rfl o h')
    have hx : o < xs.length := by rw [hown0.1]; exact hlo
    rcases hv with rfl | ⟨hm, c', rfl, hlt, hold⟩
    · rw [own_cell hown0 hx, own_cell hown (by simp; omega), List.getElem_append_left hx]
    · exact World.cell?_of_block (hold b ((oRow_lt hown0 b (by simp [Value.ownBlock])).2))
  · obtain ⟨e, hs'⟩ := hfr b o hb ho hs
    subst e
    exact hfree b hb o (by omega) hs'

/-- A buffer that grows behind its first n elements. -/
theorem RelM.growW (h : RelM F g mem w) (hk : Kept F g w) {i E sz gen n m : Nat} {es es' : List V} {a : Option Nat} {c : Nat} {v' : Value} {xs news : List Value} (hi : aget mem i = some (.w E sz gen es)) (ha : g.rw i = some (a, gen, c))
    (hlen : es'.length = n + m) (hcell : ∀ e ∈ es', e.cells.length = sz ∧ ∀ u ∈ e.cells, u.one = true) (hown : w'.oRow 0 E sz v' (n + m) (xs ++ news)) (hg : w.grownBy w' (Value.ownBlock (.slice (a.map fun b => ⟨b, 0, none⟩) n c)))
    (hrep : ∀ g', Ev g w g' w' → ∀ (j : Nat) u x, (es'.flatMap V.cells)[j]? = some u → (xs ++ news)[j]? = some x → Rep w' g'.bare u x) (hv : AppR w w' a n c v' m) :
    ∃ g' a' c', v' = .slice (Option.map (fun b => ⟨b, 0, none⟩) a') (n + m) c' ∧ g'.rw i = some (a', gen + 1, c') ∧ Ev g w g' w' ∧ RelM F g' ((i, .w E sz (gen + 1) es') :: mem) w' ∧ Kept F g' w' := by
  obtain ⟨a0, c0, e1, hR⟩ := h.buf hi
  rw [ha] at e1; cases e1
  obtain ⟨g', a', c', k1, k2, k3, k4, k5, _⟩ := h.grown hk hi (fun b o => Iff.rfl) ha (gen + 1) 0 (by omega) (fun hm => by omega) hown hg (fun b o hab hs => absurd hs (hR.free b hab o)) hv (.w E sz (gen + 1) es') (fun _ _ _ hp => hp) fun a' c' g' hv' hrw he hfr =>
    .w hrw ⟨hR.pos, hcell, ⟨xs ++ news, by rw [hlen, ← hv']; exact hown, hrep g' he⟩, fun b hb o hs => by
      obtain ⟨e, hs'⟩ := hfr b o hb (Nat.zero_le _) hs
      subst e
      exact hR.free b hb o hs'⟩
  exact ⟨g', a', c', k1, k2, k3, k4, k5⟩

/-- An object in its own block is set anew. -/
theorem RelM.setO (h : RelM F g mem w) (hk : Kept F g w) {i b off : Nat} {m m' : M} {ob : Obj} (hi : aget mem i = some m) (hm : ∀ b o, fp g i m b o ↔ ∃ off, g.bx i = some (b, off)) (hb : g.bx i = some (b, off)) (hS : ∀ o, ¬ g.S b o) (hw : w'.heap = w.heap.setIfInBounds b ob) (hos : w'.os = w.os) (htp : w'.tape = w.tape) (hout : w'.output = w.output)
    (ho : Ev g w g w' → ObjAt g w' i m') (hf : ∀ b o, fp g i m' b o → ∃ off, g.bx i = some (b, off)) : Ev g w g w' ∧ RelM F g ((i, m') :: mem) w' ∧ Kept F g w' := by
  have hoth : ∀ k, k ≠ b → w'.heap[k]? = w.heap[k]? := fun k hk' => by rw [hw, Array.getElem?_setIfInBounds_ne (Ne.symm hk')]
  have hsz : w'.heap.size = w.heap.size := by rw [hw]; simp
  have he : Ev g w g w' := ⟨by omega, fun b0 o0 hlt hs => ⟨hs, World.cell?_of_block (hoth b0 fun e => hS o0 (e ▸ hs))⟩, fun _ _ hz => hz, fun r a l c hh => ⟨a, l, c, hh, Nat.le_refl _, fun _ => ⟨rfl, rfl⟩⟩⟩
  have hat : ∀ o, at0 g mem i b o := fun o => ⟨m, hi, (hm b o).2 ⟨_, hb⟩⟩
  exact ⟨he, h.step hk he hos htp hout (fun b0 o0 _ hn => ⟨World.cell?_of_block (hoth b0 fun e => hn (e ▸ hat o0)), World.frozen?_of_block (hoth b0 fun e => hn (e ▸ hat o0)), fun hs => hs⟩) (fun b0 _ hn => hoth b0 fun e => hn 0 (e ▸ hat 0)) (fun _ _ => rfl) (fun _ _ => rfl) (ho he) (fun b0 o0 hp => .inl ⟨m, hi, (hm b0 o0).2 (hf b0 o0 hp)⟩) fun b0 o0 hb0 => h.fut b0 o0 (by omega)⟩
end
end Lf
end Go.Proofs.Ytgeccggkdgpkiaa

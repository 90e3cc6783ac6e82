/- The lifted memory carried on: through a later world, a new box, a new row, a store into a box, a row that grows. -/
import Derived.Test.YtpecjhjpdaifoaaLop1
namespace Go.Proofs.Ytpecjhjpdaifoaa
open Go.RowKit Rg
namespace Lf
section
variable {F : Fr0} {g g' : Gh} {w w' : World} {mem : Mem}

theorem BoxAt.mono {b off : Nat} {cs : List V} (h : BoxAt F g w b off cs) (he : Ev g w g' w')
    (hc : ∀ j, j < cs.length → w'.cell? ⟨b, off + j, none⟩ = w.cell? ⟨b, off + j, none⟩ ∧ w'.frozen? ⟨b, off + j, none⟩ = w.frozen? ⟨b, off + j, none⟩ ∧ (¬ g.S b (off + j) → ¬ g'.S b (off + j))) : BoxAt F g' w' b off cs := by
  refine ⟨Nat.lt_of_lt_of_le h.lt he.size, h.one, fun j u hj => ?_⟩
  obtain ⟨h1, h2, h3, x, h4, h5⟩ := h.at_ j u hj
  obtain ⟨c1, c2, c3⟩ := hc j (List.getElem?_eq_some_iff.1 hj).1
  exact ⟨c3 h1, h2, c2.trans h3, x, c1.trans h4, h5.mono he⟩
theorem RowAt.mono {a : Option Nat} {E sz n c : Nat} (h : RowAt F g w a E sz n c) (hb : ∀ b, a = some b → w'.heap[b]? = w.heap[b]? ∧ ∀ o, ¬ g.S b o → ¬ g'.S b o) : RowAt F g' w' a E sz n c := by
  obtain ⟨hp, ⟨xs, ho⟩, hf⟩ := h
  refine ⟨hp, ⟨xs, ho.1, ?_⟩, fun b hbb => ⟨(hf b hbb).1, fun o hoo hs => (hb b hbb).2 o ((hf b hbb).2 o hoo) hs⟩⟩
  rcases ho.2 with hn | ⟨q, cap, cur, hv, hb0, hq, r⟩
  · exact .inl hn
  · refine .inr ⟨q, cap, cur, hv, hb0, ?_, r⟩
    cases a with
    | none => simp at hv
    | some b =>
      have : b = q := by simp at hv; exact hv.1
      subst this
      rw [(hb b rfl).1]; exact hq
theorem RowAt.lt {a : Option Nat} {E sz n c b : Nat} (h : RowAt F g w a E sz n c) (hb : a = some b) : b < w.heap.size := by
  obtain ⟨xs, ho⟩ := h.own
  subst hb
  exact (ho.lt b (by simp [Value.ownBlock])).2

/-- A later world, every old block kept; the ghost knows more of new blocks alone. -/
theorem RelM.ext (h : RelM F g mem w) (hk : Kept F g w) (hx : Ext w w') (hS : ∀ b o, b < w.heap.size → (g'.S b o ↔ g.S b o)) (hb : g'.bx = g.bx) (hr : g'.rw = g.rw) (hf : ∀ b o, w'.heap.size ≤ b → g'.S b o) :
    Ev g w g' w' ∧ RelM F g' mem w' ∧ Kept F g' w' := by
  have hcell : ∀ b o, b < w.heap.size → w'.cell? ⟨b, o, none⟩ = w.cell? ⟨b, o, none⟩ := fun b o hb => Below.cell hx (p := ⟨b, o, none⟩) hb
  have hfro : ∀ b o, b < w.heap.size → w'.frozen? ⟨b, o, none⟩ = w.frozen? ⟨b, o, none⟩ := fun b o hb => Below.frozen hx (p := ⟨b, o, none⟩) hb
  have he : Ev g w g' w' := ⟨hx.size, fun b o hb hs => ⟨(hS b o hb).2 hs, hcell b o hb⟩, fun i z hz => by rw [hb]; exact hz, fun r a l c h => ⟨a, l, c, by rw [hr]; exact h, Nat.le_refl _, fun _ => ⟨rfl, rfl⟩⟩⟩
  refine ⟨he, ⟨fun i cs hi => ?_, fun i E sz n hi => ?_, by rw [hb]; exact h.bb, by rw [hb, hr]; exact h.br, by rw [hr]; exact h.rr, by rw [hb]; exact h.nbx, by rw [hr]; exact h.nrw, hf⟩, ?_⟩
  · obtain ⟨b, off, h1, h2⟩ := h.box i cs hi
    exact ⟨b, off, by rw [hb]; exact h1, h2.mono he fun j _ => ⟨hcell b _ h2.lt, hfro b _ h2.lt, fun hn hs => hn ((hS b _ h2.lt).1 hs)⟩⟩
  · obtain ⟨a, c, h1, h2⟩ := h.row i E sz n hi
    exact ⟨a, c, by rw [hr]; exact h1, h2.mono fun b hb => ⟨hx.block b (h2.lt hb), fun o hn hs => hn ((hS b o (h2.lt hb)).1 hs)⟩⟩
  · refine ⟨hx.os.trans hk.os, hx.tape.trans hk.tape, hx.output.trans hk.output, Nat.le_trans hk.size hx.size, fun b hlt hB => (hx.block b (Nat.lt_of_lt_of_le hlt hk.size)).trans (hk.blk b hlt hB), fun b o hlt hB => ?_, fun b o hlt => ?_⟩
    · obtain ⟨k1, k2⟩ := hk.cell b o hlt hB
      have hlt' := Nat.lt_of_lt_of_le hlt hk.size
      exact ⟨(hcell b o hlt').trans k1, (hfro b o hlt').trans k2⟩
    · exact (hS b o (Nat.lt_of_lt_of_le hlt hk.size)).trans (hk.S b o hlt)

/-- The ghost with one box more. -/
def Gh.addBox (g : Gh) (i b off : Nat) : Gh := ⟨g.S, fun j => if j = i then some (b, off) else g.bx j, g.rw⟩
def Gh.addRow (g : Gh) (i : Nat) (z : Option Nat × Nat × Nat) : Gh := ⟨g.S, g.bx, fun j => if j = i then some z else g.rw j⟩
def Gh.less (g : Gh) (b : Nat) (n : Nat) : Gh := ⟨fun b' o => g.S b' o ∧ (b' = b → o < n), g.bx, g.rw⟩

theorem Ev.addBox {i b off : Nat} (hn : g.bx i = none) : Ev g w (g.addBox i b off) w :=
  ⟨Nat.le_refl _, fun _ _ _ hs => ⟨hs, rfl⟩, fun j z hz => by
    simp only [Gh.addBox]
    split
    · rename_i e; subst e; rw [hn] at hz; cases hz
    · exact hz, fun r a l c h => ⟨a, l, c, h, Nat.le_refl _, fun _ => ⟨rfl, rfl⟩⟩⟩
theorem Ev.addRow {i : Nat} {z : Option Nat × Nat × Nat} (hn : g.rw i = none) : Ev g w (g.addRow i z) w :=
  ⟨Nat.le_refl _, fun _ _ _ hs => ⟨hs, rfl⟩, fun _ _ hz => hz, fun r a l c h => ⟨a, l, c, by
    simp only [Gh.addRow]
    split
    · rename_i e; subst e; rw [hn] at h; cases h
    · exact h, Nat.le_refl _, fun _ => ⟨rfl, rfl⟩⟩⟩

theorem Kept.ghost (h : Kept F g w) (hS : g'.S = g.S) : Kept F g' w := ⟨h.os, h.tape, h.output, h.size, h.blk, h.cell, by rw [hS]; exact h.S⟩

theorem RelM.addBox (h : RelM F g mem w) {i b off : Nat} {cs : List V} (hi : aget mem i = none) (hb : BoxAt F g w b off cs)
    (hbb : ∀ j ds off', aget mem j = some (.b ds) → g.bx j = some (b, off') → off + cs.length ≤ off' ∨ off' + ds.length ≤ off) (hbr : ∀ j E sz n b' l c, aget mem j = some (.r E sz n) → g.rw j = some (some b', l, c) → b ≠ b') :
    RelM F (g.addBox i b off) ((i, .b cs) :: mem) w := by
  have he : Ev g w (g.addBox i b off) w := Ev.addBox (h.nbx i hi)
  have hne : ∀ j m, aget mem j = some m → j ≠ i := fun j m hj e => by rw [e, hi] at hj; cases hj
  have hbx : ∀ j, j ≠ i → (g.addBox i b off).bx j = g.bx j := fun j hj => by simp [Gh.addBox, hj]
  have hbi : (g.addBox i b off).bx i = some (b, off) := by simp [Gh.addBox]
  have hag : ∀ j, j ≠ i → aget ((i, M.b cs) :: mem) j = aget mem j := fun j hj => aget_ne (Ne.symm hj) _ _
  have hai : aget ((i, M.b cs) :: mem) i = some (.b cs) := aget_self ..
  constructor
  · intro j ds hj
    by_cases hji : j = i
    · subst hji
      rw [hai] at hj; cases hj
      exact ⟨b, off, hbi, hb.mono he fun _ _ => ⟨rfl, rfl, fun hn => hn⟩⟩
    · rw [hag j hji] at hj
      obtain ⟨b', off', h1, h2⟩ := h.box j ds hj
      exact ⟨b', off', by rw [hbx j hji]; exact h1, h2.mono he fun _ _ => ⟨rfl, rfl, fun hn => hn⟩⟩
  · intro j E sz n hj
    by_cases hji : j = i
    · subst hji; rw [hai] at hj; cases hj
    · rw [hag j hji] at hj
      obtain ⟨a, c, h1, h2⟩ := h.row j E sz n hj
      exact ⟨a, c, h1, h2.mono fun _ _ => ⟨rfl, fun _ hn => hn⟩⟩
  · intro j k cs' ds' b' o1 o2 hjk hj hk h1 h2
    by_cases hji : j = i
    · subst hji
      rw [hai] at hj; cases hj
      rw [hbi] at h1; cases h1
      rw [hag k (Ne.symm hjk)] at hk
      rw [hbx k (Ne.symm hjk)] at h2
      exact hbb k ds' o2 hk h2
    · rw [hag j hji] at hj
      rw [hbx j hji] at h1
      by_cases hki : k = i
      · subst hki
        rw [hai] at hk; cases hk
        rw [hbi] at h2; cases h2
        exact (hbb j cs' o1 hj h1).symm
      · rw [hag k hki] at hk
        rw [hbx k hki] at h2
        exact h.bb j k cs' ds' b' o1 o2 hjk hj hk h1 h2
  · intro j k cs' E sz n b1 o1 b' l c hj hk h1 h2
    by_cases hki : k = i
    · subst hki; rw [hai] at hk; cases hk
    · rw [hag k hki] at hk
      by_cases hji : j = i
      · subst hji
        rw [hbi] at h1; cases h1
        exact hbr k E sz n b' l c hk h2
      · rw [hag j hji] at hj
        rw [hbx j hji] at h1
        exact h.br j k cs' E sz n b1 o1 b' l c hj hk h1 h2
  · intro j k E sz n E' sz' n' b1 l c b' l' c' hjk hj hk h1 h2
    by_cases hji : j = i
    · subst hji; rw [hai] at hj; cases hj
    · by_cases hki : k = i
      · subst hki; rw [hai] at hk; cases hk
      · rw [hag j hji] at hj
        rw [hag k hki] at hk
        exact h.rr j k E sz n E' sz' n' b1 l c b' l' c' hjk hj hk h1 h2
  · intro j hj
    by_cases hji : j = i
    · subst hji; rw [hai] at hj; cases hj
    · rw [hag j hji] at hj; rw [hbx j hji]; exact h.nbx j hj
  · intro j hj
    by_cases hji : j = i
    · subst hji; rw [hai] at hj; cases hj
    · rw [hag j hji] at hj; exact h.nrw j hj
  · exact h.fut

theorem RelM.addRow (h : RelM F g mem w) {i E sz n c : Nat} {a : Option Nat} (hi : aget mem i = none) (hb : RowAt F g w a E sz n c)
    (hbb : ∀ j ds off' b, a = some b → aget mem j = some (.b ds) → g.bx j ≠ some (b, off')) (hbr : ∀ j E sz n b' l c b, a = some b → aget mem j = some (.r E sz n) → g.rw j = some (some b', l, c) → b ≠ b') :
    RelM F (g.addRow i (a, n, c)) ((i, .r E sz n) :: mem) w := by
  have he : Ev g w (g.addRow i (a, n, c)) w := Ev.addRow (h.nrw i hi)
  have hbx : ∀ j, j ≠ i → (g.addRow i (a, n, c)).rw j = g.rw j := fun j hj => by simp [Gh.addRow, hj]
  have hbi : (g.addRow i (a, n, c)).rw i = some (a, n, c) := by simp [Gh.addRow]
  have hag : ∀ j, j ≠ i → aget ((i, M.r E sz n) :: mem) j = aget mem j := fun j hj => aget_ne (Ne.symm hj) _ _
  have hai : aget ((i, M.r E sz n) :: mem) i = some (.r E sz n) := aget_self ..
  constructor
  · intro j ds hj
    by_cases hji : j = i
    · subst hji; rw [hai] at hj; cases hj
    · rw [hag j hji] at hj
      obtain ⟨b', off', h1, h2⟩ := h.box j ds hj
      exact ⟨b', off', h1, h2.mono he fun _ _ => ⟨rfl, rfl, fun hn => hn⟩⟩
  · intro j E' sz' n' hj
    by_cases hji : j = i
    · subst hji
      rw [hai] at hj; cases hj
      exact ⟨a, c, hbi, hb.mono fun _ _ => ⟨rfl, fun _ hn => hn⟩⟩
    · rw [hag j hji] at hj
      obtain ⟨a', c', h1, h2⟩ := h.row j E' sz' n' hj
      exact ⟨a', c', by rw [hbx j hji]; exact h1, h2.mono fun _ _ => ⟨rfl, fun _ hn => hn⟩⟩
  · intro j k cs' ds' b' o1 o2 hjk hj hk h1 h2
    by_cases hji : j = i
    · subst hji; rw [hai] at hj; cases hj
    · by_cases hki : k = i
      · subst hki; rw [hai] at hk; cases hk
      · rw [hag j hji] at hj
        rw [hag k hki] at hk
        exact h.bb j k cs' ds' b' o1 o2 hjk hj hk h1 h2
  · intro j k cs' E' sz' n' b1 o1 b' l c' hj hk h1 h2
    by_cases hji : j = i
    · subst hji; rw [hai] at hj; cases hj
    · rw [hag j hji] at hj
      by_cases hki : k = i
      · subst hki
        rw [hbi] at h2; cases h2
        exact fun e => hbb j cs' o1 b' rfl hj (by rw [← e]; exact h1)
      · rw [hag k hki] at hk
        rw [hbx k hki] at h2
        exact h.br j k cs' E' sz' n' b1 o1 b' l c' hj hk h1 h2
  · intro j k E1 sz1 n1 E' sz' n' b1 l c1 b' l' c' hjk hj hk h1 h2
    by_cases hji : j = i
    · subst hji
      rw [hbi] at h1; cases h1
      rw [hag k (Ne.symm hjk)] at hk
      rw [hbx k (Ne.symm hjk)] at h2
      exact hbr k E' sz' n' b' l' c' b1 rfl hk h2
    · rw [hag j hji] at hj
      rw [hbx j hji] at h1
      by_cases hki : k = i
      · subst hki
        rw [hbi] at h2; cases h2
        exact fun e => hbr j E1 sz1 n1 b1 l c1 b' rfl hj h1 e.symm
      · rw [hag k hki] at hk
        rw [hbx k hki] at h2
        exact h.rr j k E1 sz1 n1 E' sz' n' b1 l c1 b' l' c' hjk hj hk h1 h2
  · intro j hj
    by_cases hji : j = i
    · subst hji; rw [hai] at hj; cases hj
    · rw [hag j hji] at hj; exact h.nbx j hj
  · intro j hj
    by_cases hji : j = i
    · subst hji; rw [hai] at hj; cases hj
    · rw [hag j hji] at hj; rw [hbx j hji]; exact h.nrw j hj
  · exact h.fut

/-- A new block from a world on, of which the ghost knows that the first n cells stay. -/
theorem RelM.fresh (h : RelM F g mem w) (hk : Kept F g w) (o : Obj) (n : Nat) :
    Ev g w (g.less w.heap.size n) (w.alloc o) ∧ RelM F (g.less w.heap.size n) mem (w.alloc o) ∧ Kept F (g.less w.heap.size n) (w.alloc o) :=
  h.ext hk ((Below.refl _ w).alloc (Nat.le_refl _) o) (fun b o hb => ⟨fun h => h.1, fun h => ⟨h, fun e => by omega⟩⟩) rfl rfl (fun b o hb => ⟨h.fut b o (by simp at hb; omega), fun e => by simp at hb; omega⟩)

theorem RelM.old (h : RelM F g mem w) : (∀ j ds b off, aget mem j = some (.b ds) → g.bx j = some (b, off) → b < w.heap.size) ∧ (∀ j E sz n b l c, aget mem j = some (.r E sz n) → g.rw j = some (some b, l, c) → b < w.heap.size) := by
  refine ⟨fun j ds b off hj hb => ?_, fun j E sz n b l c hj hb => ?_⟩
  · obtain ⟨b', off', h1, h2⟩ := h.box j ds hj
    rw [hb] at h1; cases h1
    exact h2.lt
  · obtain ⟨a, c', h1, h2⟩ := h.row j E sz n hj
    rw [hb] at h1; cases h1
    exact h2.lt rfl

/-- A new box. -/
theorem RelM.newBox (h : RelM F g mem w) (hk : Kept F g w) {i T : Nat} {cs : List V} {xs : Array Value} (hi : aget mem i = none) (hl : cs.length = xs.size) (h1 : ∀ u ∈ cs, u.one = true)
    (hr : ∀ (j : Nat) u x, cs[j]? = some u → xs[j]? = some x → Rep w g u x) :
    ∃ g', g'.bx i = some (w.heap.size, 0) ∧ Ev g w g' (w.alloc (.cells xs T)) ∧ RelM F g' ((i, .b cs) :: mem) (w.alloc (.cells xs T)) ∧ Kept F g' (w.alloc (.cells xs T)) := by
  obtain ⟨he, hm, hk'⟩ := h.fresh hk (.cells xs T) 0
  obtain ⟨o1, o2⟩ := h.old
  refine ⟨(g.less w.heap.size 0).addBox i w.heap.size 0, by simp [Gh.addBox], he.trans (Ev.addBox (hm.nbx i hi)), hm.addBox hi ⟨by simp, h1, fun j u hj => ?_⟩ (fun j ds off' hj hb => ?_) (fun j E sz n b' l c hj hb e => ?_), hk'.ghost rfl⟩
  · have hjl := (List.getElem?_eq_some_iff.1 hj).1
    have hx : xs[j]? = some xs[j] := Array.getElem?_eq_getElem (by omega)
    refine ⟨fun hs => by have := hs.2 rfl; omega, .inl hk.size, by rw [World.frozen?_alloc_at _ _ _ _ rfl], xs[j], ?_, (hr j u _ hj hx).mono he⟩
    rw [World.cell?_alloc_at _ _ _ _ rfl, Nat.zero_add, hx]
  · have := o1 j ds _ off' hj hb; omega
  · have := o2 j E sz n b' l c hj hb; omega

theorem cells_choose {p : Nat → Value → Prop} : ∀ (n : Nat), (∀ j, j < n → ∃ x, p j x) → ∃ xs : List Value, xs.length = n ∧ ∀ j x, xs[j]? = some x → p j x
  | 0, _ => ⟨[], rfl, by simp⟩
  | n + 1, h => by
    obtain ⟨xs, hl, hx⟩ := cells_choose n fun j hj => h j (by omega)
    obtain ⟨x, hp⟩ := h n (by omega)
    refine ⟨xs ++ [x], by simp [hl], fun j y hj => ?_⟩
    rcases Nat.lt_or_ge j xs.length with hlt | hge
    · rw [List.getElem?_append_left hlt] at hj; exact hx j y hj
    · rw [List.getElem?_append_right hge] at hj
      have : j - xs.length = 0 := by
        have := (List.getElem?_eq_some_iff.1 hj).1; simp at this; omega
      rw [this] at hj
      simp at hj
      obtain rfl : j = n := by omega
      subst hj; exact hp

/-- What a box holds, by the model's cells. -/
theorem BoxAt.vals {b off : Nat} {cs : List V} (h : BoxAt F g w b off cs) : ∃ xs : List Value, xs.length = cs.length ∧ w.rangeAt b off xs ∧ ∀ (j : Nat) u x, cs[j]? = some u → xs[j]? = some x → Rep w g u x := by
  obtain ⟨xs, hl, hx⟩ := cells_choose (p := fun j x => w.cell? ⟨b, off + j, none⟩ = some x ∧ ∀ u, cs[j]? = some u → Rep w g u x) cs.length fun j hj => by
    obtain ⟨_, _, _, x, hc, hr⟩ := h.at_ j cs[j] (List.getElem?_eq_getElem hj)
    exact ⟨x, hc, fun u hu => by rw [List.getElem?_eq_getElem hj] at hu; cases hu; exact hr⟩
  exact ⟨xs, hl, fun j v hv => (hx j v hv).1, fun j u x hu hj => (hx j x hj).2 u hu⟩

def splice (cs : List V) (o : Nat) (us : List V) : List V := cs.take o ++ us ++ cs.drop (o + us.length)
theorem splice_len {cs us : List V} {o : Nat} (h : o + us.length ≤ cs.length) : (splice cs o us).length = cs.length := by simp [splice]; omega
theorem splice_get {cs us : List V} {o j : Nat} (h : o + us.length ≤ cs.length) : (splice cs o us)[j]? = if o ≤ j ∧ j < o + us.length then us[j - o]? else cs[j]? := by
  unfold splice
  split
  · rename_i hj
    rw [List.append_assoc, List.getElem?_append_right (by simp; omega), List.getElem?_append_left (by simp; omega)]
    congr 1; simp; omega
  · rename_i hj
    rcases Nat.lt_or_ge j o with hlt | hge
    · rw [List.append_assoc, List.getElem?_append_left (by simp; omega), List.getElem?_take, if_pos hlt]
    · rw [List.getElem?_append_right (by simp; omega), List.getElem?_drop]
      congr 1; simp; omega

theorem setCells_facts (b : Nat) : ∀ (vs : List Value) (o : Nat) (w : World), (w.setCells b o vs).os = w.os ∧ (w.setCells b o vs).tape = w.tape ∧ (w.setCells b o vs).output = w.output ∧ (w.setCells b o vs).heap.size = w.heap.size ∧ ∀ k, k ≠ b → (w.setCells b o vs).heap[k]? = w.heap[k]?
  | [], _, _ => ⟨rfl, rfl, rfl, rfl, fun _ _ => rfl⟩
  | v :: r, o, w => by
    obtain ⟨h1, h2, h3, h4, h5⟩ := setCells_facts b r (o + 1) (w.setCell ⟨b, o, none⟩ v)
    rw [World.setCells]
    exact ⟨h1, h2, h3, by rw [h4]; simp [World.setCell], fun k hk => by rw [h5 k hk]; exact Below.heap_setCell _ _ _ _ hk⟩

/-- A store into a box. -/
theorem RelM.store (h : RelM F g mem w) (hk : Kept F g w) {i b off o : Nat} {cs us : List V} {xs : List Value} (hi : aget mem i = some (.b cs)) (hb : g.bx i = some (b, off)) (hlen : o + us.length ≤ cs.length) (hl : us.length = xs.length) (h1 : ∀ u ∈ us, u.one = true)
    (hr : ∀ (j : Nat) u x, us[j]? = some u → xs[j]? = some x → Rep w g u x) :
    w.there b (off + o) xs.length ∧ Ev g w g (w.setCells b (off + o) xs) ∧ RelM F g ((i, .b (splice cs o us)) :: mem) (w.setCells b (off + o) xs) ∧ Kept F g (w.setCells b (off + o) xs) := by
  obtain ⟨b', off', e1, hB⟩ := h.box i cs hi
  rw [hb] at e1; cases e1
  have hthere : w.there b (off + o) xs.length := fun j hj => by
    obtain ⟨_, _, h3, x, h4, _⟩ := hB.at_ (o + j) cs[o + j] (List.getElem?_eq_getElem (by omega))
    rw [Nat.add_assoc]
    exact ⟨by rw [h4]; rfl, h3⟩
  obtain ⟨f1, f2, f3, f4, f5⟩ := setCells_facts b xs (off + o) w
  have hout : ∀ b0 o0, (b0 = b → o0 < off + o ∨ off + o + xs.length ≤ o0) → (w.setCells b (off + o) xs).cell? ⟨b0, o0, none⟩ = w.cell? ⟨b0, o0, none⟩ := fun b0 o0 hh =>
    World.cell?_setCells_out b xs (off + o) w ⟨b0, o0, none⟩ fun e _ => hh e
  have hfro : ∀ x, (w.setCells b (off + o) xs).frozen? x = w.frozen? x := fun x => World.frozen?_setCells b xs (off + o) w x
  have hnS : ∀ k, k < xs.length → ¬ g.S b (off + o + k) ∧ F.wr b (off + o + k) := fun k hk => by
    obtain ⟨a1, a2, _⟩ := hB.at_ (o + k) cs[o + k] (List.getElem?_eq_getElem (by omega))
    rw [Nat.add_assoc]
    exact ⟨a1, a2⟩
  have he : Ev g w g (w.setCells b (off + o) xs) := ⟨by omega, fun b0 o0 hlt hs => ⟨hs, hout b0 o0 fun e => by
    subst e
    rcases Nat.lt_or_ge o0 (off + o) with h' | h'
    · exact .inl h'
    · rcases Nat.lt_or_ge o0 (off + o + xs.length) with h'' | h''
      · have := (hnS (o0 - (off + o)) (by omega)).1
        rw [show off + o + (o0 - (off + o)) = o0 from by omega] at this
        exact absurd hs this
      · exact .inr h''⟩, fun _ _ hz => hz, fun r a l c hh => ⟨a, l, c, hh, Nat.le_refl _, fun _ => ⟨rfl, rfl⟩⟩⟩
  have hag : ∀ j, j ≠ i → aget ((i, M.b (splice cs o us)) :: mem) j = aget mem j := fun j hj => aget_ne (Ne.symm hj) _ _
  have hai : aget ((i, M.b (splice cs o us)) :: mem) i = some (.b (splice cs o us)) := aget_self ..
  have hsl : (splice cs o us).length = cs.length := splice_len hlen
  refine ⟨hthere, he, ⟨fun j ds hj => ?_, fun j E sz n hj => ?_, fun j k cs' ds' b' o1 o2 hjk hj hk h1' h2' => ?_, fun j k cs' E sz n b1 o1 b' l c hj hk h1' h2' => ?_, fun j k E sz n E' sz' n' b1 l c b' l' c' hjk hj hk h1' h2' => ?_, fun j hj => ?_, fun j hj => ?_, fun b0 o0 hb0 => h.fut b0 o0 (by omega)⟩,
    ⟨f1.trans hk.os, f2.trans hk.tape, f3.trans hk.output, by have := hk.size; omega, fun b0 hlt hB0 => ?_, fun b0 o0 hlt hB0 => ?_, hk.S⟩⟩
  · by_cases hji : j = i
    · subst hji
      rw [hai] at hj; cases hj
      refine ⟨b, off, hb, by have := hB.lt; omega, fun u hu => ?_, fun j u hj => ?_⟩
      · obtain ⟨k, hk'⟩ := List.getElem?_of_mem hu
        rw [splice_get hlen] at hk'
        split at hk'
        · exact h1 u (List.mem_of_getElem? hk')
        · exact hB.one u (List.mem_of_getElem? hk')
      · have hjl : j < cs.length := by have := (List.getElem?_eq_some_iff.1 hj).1; omega
        obtain ⟨a1, a2, a3, x, a4, a5⟩ := hB.at_ j cs[j] (List.getElem?_eq_getElem hjl)
        refine ⟨a1, a2, by rw [hfro]; exact a3, ?_⟩
        rw [splice_get hlen] at hj
        split at hj
        · rename_i hin
          have hx : xs[j - o]? = some xs[j - o] := List.getElem?_eq_getElem (by omega)
          refine ⟨xs[j - o], ?_, (hr (j - o) u _ hj hx).mono he⟩
          have := World.cell?_setCells_in b xs (off + o) w (fun k hk' => (hthere k hk').1) (j - o) (by omega)
          rw [show off + o + (j - o) = off + j from by omega] at this
          exact this
        · rename_i hin
          rw [List.getElem?_eq_getElem hjl] at hj
          cases hj
          exact ⟨x, by rw [hout _ _ fun _ => by omega]; exact a4, a5.mono he⟩
    · rw [hag j hji] at hj
      obtain ⟨b1, o1, c1, c2⟩ := h.box j ds hj
      refine ⟨b1, o1, c1, c2.mono he fun k hk' => ⟨hout _ _ fun e => ?_, hfro _, fun hn => hn⟩⟩
      subst e
      have := h.bb i j cs ds b1 off o1 (Ne.symm hji) hi hj hb c1
      omega
  · by_cases hji : j = i
    · subst hji; rw [hai] at hj; cases hj
    · rw [hag j hji] at hj
      obtain ⟨a, c, c1, c2⟩ := h.row j E sz n hj
      refine ⟨a, c, c1, c2.mono fun b0 hb0 => ⟨f5 b0 fun e => ?_, fun _ hn => hn⟩⟩
      subst hb0
      exact h.br i j cs E sz n b off b0 _ _ hi hj hb c1 e.symm
  · by_cases hji : j = i
    · subst hji
      rw [hai] at hj; cases hj
      rw [hag k (Ne.symm hjk)] at hk
      rw [hsl]
      exact h.bb j k cs ds' b' o1 o2 hjk hi hk h1' h2'
    · rw [hag j hji] at hj
      by_cases hki : k = i
      · subst hki
        rw [hai] at hk; cases hk
        rw [hsl]
        exact h.bb j k cs' cs b' o1 o2 hjk hj hi h1' h2'
      · rw [hag k hki] at hk
        exact h.bb j k cs' ds' b' o1 o2 hjk hj hk h1' h2'
  · by_cases hki : k = i
    · subst hki; rw [hai] at hk; cases hk
    · rw [hag k hki] at hk
      by_cases hji : j = i
      · subst hji
        exact h.br j k cs E sz n b1 o1 b' l c hi hk h1' h2'
      · rw [hag j hji] at hj
        exact h.br j k cs' E sz n b1 o1 b' l c hj hk h1' h2'
  · by_cases hji : j = i
    · subst hji; rw [hai] at hj; cases hj
    · by_cases hki : k = i
      · subst hki; rw [hai] at hk; cases hk
      · rw [hag j hji] at hj
        rw [hag k hki] at hk
        exact h.rr j k E sz n E' sz' n' b1 l c b' l' c' hjk hj hk h1' h2'
  · by_cases hji : j = i
    · subst hji; rw [hai] at hj; cases hj
    · rw [hag j hji] at hj; exact h.nbx j hj
  · by_cases hji : j = i
    · subst hji; rw [hai] at hj; cases hj
    · rw [hag j hji] at hj; exact h.nrw j hj
  · rcases Nat.eq_zero_or_pos xs.length with h0 | h0
    · have : xs = [] := List.eq_nil_of_length_eq_zero h0
      subst this; exact hk.blk b0 hlt hB0
    · refine (f5 b0 fun e => ?_).trans (hk.blk b0 hlt hB0)
      subst e
      rcases (hnS 0 h0).2 with h' | h'
      · omega
      · exact hB0 _ h'
  · obtain ⟨k1, k2⟩ := hk.cell b0 o0 hlt hB0
    refine ⟨(hout b0 o0 fun e => ?_).trans k1, (hfro _).trans k2⟩
    subst e
    rcases Nat.lt_or_ge o0 (off + o) with h' | h'
    · exact .inl h'
    · rcases Nat.lt_or_ge o0 (off + o + xs.length) with h'' | h''
      · have := (hnS (o0 - (off + o)) (by omega)).2
        rw [show off + o + (o0 - (off + o)) = o0 from by omega] at this
        rcases this with h3 | h3
        · omega
        · exact absurd h3 hB0
      · exact .inr h''

/-- The ghost behind a row's growth in its place. -/
def Gh.more (g : Gh) (i : Nat) (a : Option Nat) (l c k : Nat) : Gh := ⟨fun b o => g.S b o ∨ (a = some b ∧ o < k), g.bx, fun j => if j = i then some (a, l, c) else g.rw j⟩
/-- The ghost behind a row's moving to a new block. -/
def Gh.moved (g : Gh) (i H l c k : Nat) : Gh := ⟨fun b o => g.S b o ∧ (b = H → o < k), g.bx, fun j => if j = i then some (some H, l, c) else g.rw j⟩

theorem own_cell {E sz n c b : Nat} {xs : List Value} (h : w.ownsRow 0 E sz (.slice (some ⟨b, 0, none⟩) n c) n xs) {o : Nat} (ho : o < xs.length) : w.cell? ⟨b, o, none⟩ = some xs[o] := by
  have := World.ownsRow.cells h (g := b) rfl o xs[o] (List.getElem?_eq_getElem ho)
  rw [Addr.add_lit, Nat.zero_add] at this
  exact this

/-- A row that grows: what it had it has, behind it what was appended. -/
theorem RelM.grow (h : RelM F g mem w) (hk : Kept F g w) {i E sz n m : Nat} {a : Option Nat} {c : Nat} {v' : Value} {xs news : List Value} (hi : aget mem i = some (.r E sz n)) (ha : g.rw i = some (a, n, c))
    (hnl : n * sz + news.length = (n + m) * sz) (hown0 : w.ownsRow 0 E sz (.slice (a.map fun b => ⟨b, 0, none⟩) n c) n xs) (hown : w'.ownsRow 0 E sz v' (n + m) (xs ++ news)) (hg : w.grownBy w' (Value.ownBlock (.slice (a.map fun b => ⟨b, 0, none⟩) n c)))
    (hv : v' = .slice (a.map fun b => ⟨b, 0, none⟩) (n + m) c ∨ (0 < m ∧ ∃ c', v' = .slice (some ⟨w.heap.size, 0, none⟩) (n + m) c' ∧ w.heap.size < w'.heap.size ∧ ∀ k, k < w.heap.size → w'.heap[k]? = w.heap[k]?)) :
    ∃ g' a' c', v' = .slice (Option.map (fun b => ⟨b, 0, none⟩) a') (n + m) c' ∧ g'.rw i = some (a', n + m, c') ∧ Ev g w g' w' ∧ RelM F g' ((i, .r E sz (n + m)) :: mem) w' ∧ Kept F g' w' ∧
      (∀ b, a' = some b → b < w'.heap.size ∧ ∀ o, o < (n + m) * sz → g'.S b o) := by
  obtain ⟨a0, c0, e1, hR⟩ := h.row i E sz n hi
  rw [ha] at e1; cases e1
  obtain ⟨hsz, _, hfree⟩ := hR
  obtain ⟨q1, q2⟩ := h.old
  have hag : ∀ (M' : M) j, j ≠ i → aget ((i, M') :: mem) j = aget mem j := fun M' j hj => aget_ne (Ne.symm hj) _ _
  have hai : ∀ M' : M, aget ((i, M') :: mem) i = some M' := fun M' => aget_self ..
  rcases hv with rfl | ⟨hm, c', rfl, hlt, hold⟩
  · have hother : ∀ k, k < w.heap.size → a ≠ some k → w'.heap[k]? = w.heap[k]? := fun k hk' hne => hg.block k hk' (by
      cases a with
      | none => simp [Value.ownBlock]
      | some b => simp [Value.ownBlock]; intro e; exact hne (by rw [e]))
    have hoc : ∀ b o, b < w.heap.size → a ≠ some b → w'.cell? ⟨b, o, none⟩ = w.cell? ⟨b, o, none⟩ ∧ w'.frozen? ⟨b, o, none⟩ = w.frozen? ⟨b, o, none⟩ := fun b o hb hne =>
      ⟨World.cell?_of_block (hother b hb hne), World.frozen?_of_block (hother b hb hne)⟩
    have hrwi : (g.more i a (n + m) c ((n + m) * sz)).rw i = some (a, n + m, c) := by simp [Gh.more]
    have hrwj : ∀ j, j ≠ i → (g.more i a (n + m) c ((n + m) * sz)).rw j = g.rw j := fun j hj => by simp [Gh.more, hj]
    have he : Ev g w (g.more i a (n + m) c ((n + m) * sz)) w' := by
      refine ⟨hg.size, fun b o hb hs => ⟨.inl hs, ?_⟩, fun _ _ hz => hz, fun r a1 l1 c1 hr => ?_⟩
      · by_cases hab : a = some b
        · subst hab
          have hlo : o < n * sz := by
            rcases Nat.lt_or_ge o (n * sz) with h' | h'
            · exact h'
            · exact absurd hs ((hfree b rfl).2 o h')
          have hx : o < xs.length := by rw [hown0.1]; exact hlo
          rw [own_cell hown0 hx, own_cell hown (by simp; omega), List.getElem_append_left hx]
        · exact (hoc b o hb hab).1
      · by_cases hri : r = i
        · subst hri
          rw [ha] at hr; cases hr
          exact ⟨_, _, _, hrwi, by omega, fun _ => ⟨rfl, rfl⟩⟩
        · exact ⟨a1, l1, c1, by rw [hrwj r hri]; exact hr, Nat.le_refl _, fun _ => ⟨rfl, rfl⟩⟩
    refine ⟨_, a, c, rfl, hrwi, he, ⟨fun j ds hj => ?_, fun j E' sz' n' hj => ?_, fun j k cs' ds' b' o1 o2 hjk hj hk' h1' h2' => ?_, fun j k cs' E' sz' n' b1 o1 b' l c1 hj hk' h1' h2' => ?_, fun j k E1 sz1 n1 E' sz' n' b1 l c1 b' l' c' hjk hj hk' h1' h2' => ?_, fun j hj => ?_, fun j hj => ?_, fun b0 o0 hb0 => .inl (h.fut b0 o0 (by have := hg.size; omega))⟩, ?_, fun b hb => ⟨?_, fun o ho => .inr ⟨hb, ho⟩⟩⟩
    · by_cases hji : j = i
      · subst hji; rw [hai] at hj; cases hj
      · rw [hag _ j hji] at hj
        obtain ⟨b1, o1, c1, c2⟩ := h.box j ds hj
        have hne : a ≠ some b1 := fun e => h.br j i ds E sz n b1 o1 b1 n c hj hi c1 (by rw [ha, e]) rfl
        exact ⟨b1, o1, c1, c2.mono he fun k _ => ⟨(hoc b1 _ c2.lt hne).1, (hoc b1 _ c2.lt hne).2, fun hn hs => hs.elim hn fun hh => hne hh.1⟩⟩
    · by_cases hji : j = i
      · subst hji
        rw [hai] at hj; cases hj
        exact ⟨a, c, hrwi, hsz, ⟨_, hown⟩, fun b hb => ⟨(hfree b hb).1, fun o ho hs => hs.elim ((hfree b hb).2 o (by have : n * sz ≤ (n + m) * sz := Nat.mul_le_mul_right _ (by omega); omega)) fun hh => by omega⟩⟩
      · rw [hag _ j hji] at hj
        obtain ⟨a1, c1, d1, d2⟩ := h.row j E' sz' n' hj
        refine ⟨a1, c1, by rw [hrwj j hji]; exact d1, d2.mono fun b hb => ?_⟩
        have hne : a ≠ some b := fun e => h.rr j i E' sz' n' E sz n b n' c1 b n c hji hj hi (by rw [d1, hb]) (by rw [ha, e]) rfl
        exact ⟨hother b (d2.lt hb) hne, fun o hn hs => hs.elim hn fun hh => hne hh.1⟩
    · by_cases hji : j = i
      · subst hji; rw [hai] at hj; cases hj
      · by_cases hki : k = i
        · subst hki; rw [hai] at hk'; cases hk'
        · rw [hag _ j hji] at hj
          rw [hag _ k hki] at hk'
          exact h.bb j k cs' ds' b' o1 o2 hjk hj hk' h1' h2'
    · by_cases hji : j = i
      · subst hji; rw [hai] at hj; cases hj
      · rw [hag _ j hji] at hj
        by_cases hki : k = i
        · subst hki
          rw [hrwi] at h2'; cases h2'
          exact h.br j k cs' E sz n b1 o1 b' _ _ hj hi h1' ha
        · rw [hag _ k hki] at hk'
          rw [hrwj k hki] at h2'
          exact h.br j k cs' E' sz' n' b1 o1 b' l c1 hj hk' h1' h2'
    · by_cases hji : j = i
      · subst hji
        rw [hrwi] at h1'; cases h1'
        rw [hag _ k (Ne.symm hjk)] at hk'
        rw [hrwj k (Ne.symm hjk)] at h2'
        exact h.rr j k E sz n E' sz' n' b1 _ _ b' l' c' hjk hi hk' ha h2'
      · rw [hag _ j hji] at hj
        rw [hrwj j hji] at h1'
        by_cases hki : k = i
        · subst hki
          rw [hrwi] at h2'; cases h2'
          exact h.rr j k E1 sz1 n1 E sz n b1 l c1 b' _ _ hjk hj hi h1' ha
        · rw [hag _ k hki] at hk'
          rw [hrwj k hki] at h2'
          exact h.rr j k E1 sz1 n1 E' sz' n' b1 l c1 b' l' c' hjk hj hk' h1' h2'
    · by_cases hji : j = i
      · subst hji; rw [hai] at hj; cases hj
      · rw [hag _ j hji] at hj; exact h.nbx j hj
    · by_cases hji : j = i
      · subst hji; rw [hai] at hj; cases hj
      · rw [hag _ j hji] at hj; rw [hrwj j hji]; exact h.nrw j hj
    · have hnb : ∀ b0, b0 < F.w0.heap.size → a ≠ some b0 := fun b0 hlt e => by have := (hfree b0 e).1; omega
      refine ⟨hg.os.trans hk.os, hg.tape.trans hk.tape, hg.output.trans hk.output, Nat.le_trans hk.size hg.size, fun b0 hlt hB => (hother b0 (Nat.lt_of_lt_of_le hlt hk.size) (hnb b0 hlt)).trans (hk.blk b0 hlt hB), fun b0 o0 hlt hB => ?_, fun b0 o0 hlt => ?_⟩
      · obtain ⟨k1, k2⟩ := hk.cell b0 o0 hlt hB
        obtain ⟨m1, m2⟩ := hoc b0 o0 (Nat.lt_of_lt_of_le hlt hk.size) (hnb b0 hlt)
        exact ⟨m1.trans k1, m2.trans k2⟩
      · exact ⟨fun hs => (hk.S b0 o0 hlt).1 (hs.resolve_right fun hh => hnb b0 hlt hh.1), fun hs => .inl ((hk.S b0 o0 hlt).2 hs)⟩
    · subst hb
      exact (hown.lt b (by simp [Value.ownBlock])).2
  · have hoc : ∀ b o, b < w.heap.size → w'.cell? ⟨b, o, none⟩ = w.cell? ⟨b, o, none⟩ ∧ w'.frozen? ⟨b, o, none⟩ = w.frozen? ⟨b, o, none⟩ := fun b o hb =>
      ⟨World.cell?_of_block (hold b hb), World.frozen?_of_block (hold b hb)⟩
    have hrwi : (g.moved i w.heap.size (n + m) c' ((n + m) * sz)).rw i = some (some w.heap.size, n + m, c') := by simp [Gh.moved]
    have hrwj : ∀ j, j ≠ i → (g.moved i w.heap.size (n + m) c' ((n + m) * sz)).rw j = g.rw j := fun j hj => by simp [Gh.moved, hj]
    have he : Ev g w (g.moved i w.heap.size (n + m) c' ((n + m) * sz)) w' := by
      refine ⟨hg.size, fun b o hb hs => ⟨⟨hs, fun e => by omega⟩, (hoc b o hb).1⟩, fun _ _ hz => hz, fun r a1 l1 c1 hr => ?_⟩
      by_cases hri : r = i
      · subst hri
        rw [ha] at hr; cases hr
        exact ⟨_, _, _, hrwi, by omega, fun _ => by omega⟩
      · exact ⟨a1, l1, c1, by rw [hrwj r hri]; exact hr, Nat.le_refl _, fun _ => ⟨rfl, rfl⟩⟩
    refine ⟨_, some w.heap.size, c', rfl, hrwi, he, ⟨fun j ds hj => ?_, fun j E' sz' n' hj => ?_, fun j k cs' ds' b' o1 o2 hjk hj hk' h1' h2' => ?_, fun j k cs' E' sz' n' b1 o1 b' l c1 hj hk' h1' h2' => ?_, fun j k E1 sz1 n1 E' sz' n' b1 l c1 b' l' c'' hjk hj hk' h1' h2' => ?_, fun j hj => ?_, fun j hj => ?_, fun b0 o0 hb0 => ⟨h.fut b0 o0 (by omega), fun e => by omega⟩⟩, ?_, fun b hb => ?_⟩
    · by_cases hji : j = i
      · subst hji; rw [hai] at hj; cases hj
      · rw [hag _ j hji] at hj
        obtain ⟨b1, o1, c1, c2⟩ := h.box j ds hj
        exact ⟨b1, o1, c1, c2.mono he fun k _ => ⟨(hoc b1 _ c2.lt).1, (hoc b1 _ c2.lt).2, fun hn hs => hn hs.1⟩⟩
    · by_cases hji : j = i
      · subst hji
        rw [hai] at hj; cases hj
        exact ⟨some w.heap.size, c', hrwi, hsz, ⟨_, hown⟩, fun b hb => by cases hb; exact ⟨hk.size, fun o ho hs => by have := hs.2 rfl; omega⟩⟩
      · rw [hag _ j hji] at hj
        obtain ⟨a1, c1, d1, d2⟩ := h.row j E' sz' n' hj
        exact ⟨a1, c1, by rw [hrwj j hji]; exact d1, d2.mono fun b hb => ⟨hold b (d2.lt hb), fun o hn hs => hn hs.1⟩⟩
    · by_cases hji : j = i
      · subst hji; rw [hai] at hj; cases hj
      · by_cases hki : k = i
        · subst hki; rw [hai] at hk'; cases hk'
        · rw [hag _ j hji] at hj
          rw [hag _ k hki] at hk'
          exact h.bb j k cs' ds' b' o1 o2 hjk hj hk' h1' h2'
    · by_cases hji : j = i
      · subst hji; rw [hai] at hj; cases hj
      · rw [hag _ j hji] at hj
        by_cases hki : k = i
        · subst hki
          rw [hrwi] at h2'; cases h2'
          have := q1 j cs' b1 o1 hj h1'
          omega
        · rw [hag _ k hki] at hk'
          rw [hrwj k hki] at h2'
          exact h.br j k cs' E' sz' n' b1 o1 b' l c1 hj hk' h1' h2'
    · by_cases hji : j = i
      · subst hji
        rw [hrwi] at h1'; cases h1'
        rw [hag _ k (Ne.symm hjk)] at hk'
        rw [hrwj k (Ne.symm hjk)] at h2'
        have := q2 k E' sz' n' b' l' c'' hk' h2'
        omega
      · rw [hag _ j hji] at hj
        rw [hrwj j hji] at h1'
        by_cases hki : k = i
        · subst hki
          rw [hrwi] at h2'; cases h2'
          have := q2 j E1 sz1 n1 b1 l c1 hj h1'
          omega
        · rw [hag _ k hki] at hk'
          rw [hrwj k hki] at h2'
          exact h.rr j k E1 sz1 n1 E' sz' n' b1 l c1 b' l' c'' hjk hj hk' h1' h2'
    · by_cases hji : j = i
      · subst hji; rw [hai] at hj; cases hj
      · rw [hag _ j hji] at hj; exact h.nbx j hj
    · by_cases hji : j = i
      · subst hji; rw [hai] at hj; cases hj
      · rw [hag _ j hji] at hj; rw [hrwj j hji]; exact h.nrw j hj
    · refine ⟨hg.os.trans hk.os, hg.tape.trans hk.tape, hg.output.trans hk.output, Nat.le_trans hk.size hg.size, fun b0 hlt hB => (hold b0 (Nat.lt_of_lt_of_le hlt hk.size)).trans (hk.blk b0 hlt hB), fun b0 o0 hlt hB => ?_, fun b0 o0 hlt => ?_⟩
      · obtain ⟨k1, k2⟩ := hk.cell b0 o0 hlt hB
        obtain ⟨m1, m2⟩ := hoc b0 o0 (Nat.lt_of_lt_of_le hlt hk.size)
        exact ⟨m1.trans k1, m2.trans k2⟩
      · exact ⟨fun hs => (hk.S b0 o0 hlt).1 hs.1, fun hs => ⟨(hk.S b0 o0 hlt).2 hs, fun e => by have := hk.size; omega⟩⟩
    · cases hb
      exact ⟨hlt, fun o ho => ⟨h.fut _ o (Nat.le_refl _), fun _ => ho⟩⟩
end
end Lf
end Go.Proofs.Ytpecjhjpdaifoaa

/- Lifted values: what a Go value reads, told without memory; when a value of the model reads so; what carries it on. -/
import Derived.Test.YtgeccggkdgpkiaaOps
namespace Go.Proofs.Ytgeccggkdgpkiaa
open Go.RowKit
namespace Lf

/-- A lifted value: a plain one; a struct or an array by its cells; a tuple; a slice by its elements (with the number of the row that it may grow in); the nil slice; a pointer into one of the call's own boxes; a slice over such a box; a pointer to cells that stay; a function's value; an interface's value; a slice of a buffer that is written, of one of its states; a pointer into it; a map; what a loop over a function's values calls. -/
inductive V where
  | k (v : Value)
  | a (cs : List V)
  | t (vs : List V)
  | s (o : Option Nat) (es : List V)
  | nil
  | p (b off : Nat)
  | sb (b off n cap : Nat)
  | q (cs : List V)
  | f (fn : Fn) (first caps : List V)
  | i (T : TypeId) (v : V)
  | w (b gen sz off n : Nat)
  | pw (b gen off : Nat)
  | mp (b : Nat)
  | y (b : Nat)
  deriving Inhabited

def V.cells : V → List V
  | .a cs => cs
  | v => [v]
/-- It lies in one cell. -/
def V.one : V → Bool
  | .a _ | .t _ => false
  | .k v => v.oneCell'
  | _ => true

/-- What the ghost knows: which old cells stay as they are; where the boxes lie; where the rows lie, how long and how wide they are. -/
structure Gh where
  S : Nat → Nat → Prop
  bx : Nat → Option (Nat × Nat)
  rw : Nat → Option (Option Nat × Nat × Nat)
def Gh.bare (g : Gh) : Gh := ⟨g.S, fun _ => none, fun _ => none⟩
theorem Gh.bare_bare (g : Gh) : g.bare.bare = g.bare := rfl

/-- The newest slice of a row: it lies where the row lies; or there is no room at all. -/
def TipV (a : Option Nat) (l c : Nat) (x : Value) : Prop := x = .slice (a.map fun b => ⟨b, 0, none⟩) l c ∨ (a = none ∧ l = 0 ∧ c = 0 ∧ ∃ ad, x = .slice ad 0 0)
/-- A slice that is the newest of its row lies where the row lies. -/
def Tag (g : Gh) (o : Option Nat) (n : Nat) (x : Value) : Prop :=
  ∀ r, o = some r → ∃ a l c, g.rw r = some (a, l, c) ∧ n ≤ l ∧ (n = l → TipV a l c x)

/-- A slice of a buffer: its n elements from off on, where the buffer lies at a and has room for c. -/
structure WSl (a : Option Nat) (sz off n c : Nat) (ad : Option Addr) (cap : Nat) : Prop where
  le : off + n ≤ c
  cap : cap = c - off
  at_ : off < c ∨ off = 0 → ad = a.map fun b => ⟨b, off * sz, none⟩

/-- The value x of the model reads v in the world w. -/
inductive Rep (w : World) : Gh → V → Value → Prop
  | k {g} (v : Value) : Rep w g (.k v) v
  | a {g} {cs : List V} {vs : Array Value} (hl : cs.length = vs.size) (h1 : ∀ u ∈ cs, u.one = true) (hc : ∀ (j : Nat) u x, cs[j]? = some u → vs[j]? = some x → Rep w g u x) : Rep w g (.a cs) (.agg vs)
  | t {g} {cs : List V} {vs : Array Value} (hl : cs.length = vs.size) (hc : ∀ (j : Nat) u x, cs[j]? = some u → vs[j]? = some x → Rep w g u x) : Rep w g (.t cs) (.tuple vs)
  | nil {g} : Rep w g .nil (.slice none 0 0)
  | s0 {g} {o : Option Nat} (ht : Tag g o 0 (.slice none 0 0)) : Rep w g (.s o []) (.slice none 0 0)
  | se {g} {o : Option Nat} (a : Addr) (ht : Tag g o 0 (.slice (some a) 0 0)) : Rep w g (.s o []) (.slice (some a) 0 0)
  | s {g} {o : Option Nat} {es : List V} {b off cap size : Nat} (xs : Nat → Value) (hn : es.length ≤ cap) (hm : cap ≤ maxLen) (hp : 0 < size) (hs : ∀ e ∈ es, e.cells.length = size ∧ ∀ u ∈ e.cells, u.one = true)
      (hx : ∀ (j : Nat) u, (es.flatMap V.cells)[j]? = some u → b < w.heap.size ∧ g.S b (off + j) ∧ w.cell? ⟨b, off + j, none⟩ = some (xs j))
      (hc : ∀ (j : Nat) u, (es.flatMap V.cells)[j]? = some u → Rep w g.bare u (xs j))
      (ht : Tag g o es.length (.slice (some ⟨b, off, none⟩) es.length cap)) : Rep w g (.s o es) (.slice (some ⟨b, off, none⟩) es.length cap)
  | p {g} {i off b o : Nat} (h : g.bx i = some (b, o)) : Rep w g (.p i off) (.pointer (some ⟨b, o + off, none⟩))
  | sb {g} {i off n cap b o : Nat} (h : g.bx i = some (b, o)) : Rep w g (.sb i off n cap) (.slice (some ⟨b, o + off, none⟩) n cap)
  | q {g} {cs : List V} {b off : Nat} (xs : Nat → Value) (h1 : ∀ u ∈ cs, u.one = true) (hx : ∀ (j : Nat) u, cs[j]? = some u → b < w.heap.size ∧ g.S b (off + j) ∧ w.cell? ⟨b, off + j, none⟩ = some (xs j))
      (hc : ∀ (j : Nat) u, cs[j]? = some u → Rep w g.bare u (xs j)) : Rep w g (.q cs) (.pointer (some ⟨b, off, none⟩))
  | f {g} {fn : Fn} {fi ca : List V} {vs us : Array Value} (h1 : fi.length = vs.size) (h2 : ca.length = us.size) (hf : ∀ (j : Nat) u x, fi[j]? = some u → vs[j]? = some x → Rep w g u x) (hc : ∀ (j : Nat) u x, ca[j]? = some u → us[j]? = some x → Rep w g u x) : Rep w g (.f fn fi ca) (.func fn vs us)
  | i {g} {T : TypeId} {v : V} {x : Value} (h : Rep w g v x) : Rep w g (.i T v) (.iface T x)
  | w {g} {i gen sz off n : Nat} {ad : Option Addr} {cap : Nat} (h : ∃ a l c, g.rw i = some (a, l, c) ∧ gen ≤ l ∧ (gen = l → WSl a sz off n c ad cap)) : Rep w g (.w i gen sz off n) (.slice ad n cap)
  | pw {g} {i gen off : Nat} {b : Option Nat} {o : Nat} (h : ∃ a l c, g.rw i = some (a, l, c) ∧ gen ≤ l ∧ (gen = l → b = a ∧ o = off)) : Rep w g (.pw i gen off) (.pointer (b.map fun b => ⟨b, o, none⟩))
  | mp {g} {i b o : Nat} (h : g.bx i = some (b, o)) : Rep w g (.mp i) (.map (some b))
  | y {g} {i b o : Nat} (h : g.bx i = some (b, o)) : Rep w g (.y i) (.func (.yield b) #[] #[])

/-- From one world with its ghost to a later one: what stays has stayed, boxes lie where they lay, rows have grown at most. -/
structure Ev (g : Gh) (w : World) (g' : Gh) (w' : World) : Prop where
  size : w.heap.size ≤ w'.heap.size
  st : ∀ b o, b < w.heap.size → g.S b o → g'.S b o ∧ w'.cell? ⟨b, o, none⟩ = w.cell? ⟨b, o, none⟩
  bx : ∀ i z, g.bx i = some z → g'.bx i = some z
  rw : ∀ r a l c, g.rw r = some (a, l, c) → ∃ a' l' c', g'.rw r = some (a', l', c') ∧ l ≤ l' ∧ (l = l' → a = a' ∧ c = c')

theorem Ev.refl (g : Gh) (w : World) : Ev g w g w := ⟨Nat.le_refl _, fun _ _ _ h => ⟨h, rfl⟩, fun _ _ h => h, fun _ a l c h => ⟨a, l, c, h, Nat.le_refl _, fun _ => ⟨rfl, rfl⟩⟩⟩
theorem Ev.trans {g g' g'' : Gh} {w w' w'' : World} (h : Ev g w g' w') (k : Ev g' w' g'' w'') : Ev g w g'' w'' := by
  refine ⟨Nat.le_trans h.size k.size, fun b o hb hs => ?_, fun i z hz => k.bx i z (h.bx i z hz), fun r a l c hr => ?_⟩
  · obtain ⟨s1, c1⟩ := h.st b o hb hs
    obtain ⟨s2, c2⟩ := k.st b o (Nat.lt_of_lt_of_le hb h.size) s1
    exact ⟨s2, c2.trans c1⟩
  · obtain ⟨a1, l1, c1, h1, e1, f1⟩ := h.rw r a l c hr
    obtain ⟨a2, l2, c2, h2, e2, f2⟩ := k.rw r a1 l1 c1 h1
    refine ⟨a2, l2, c2, h2, Nat.le_trans e1 e2, fun he => ?_⟩
    obtain ⟨p1, p2⟩ := f1 (by omega)
    obtain ⟨q1, q2⟩ := f2 (by omega)
    exact ⟨p1.trans q1, p2.trans q2⟩
theorem Ev.bare {g g' : Gh} {w w' : World} (h : Ev g w g' w') : Ev g.bare w g'.bare w' := ⟨h.size, h.st, fun _ _ h => (by cases h), fun _ _ _ _ h => (by cases h)⟩

theorem Tag.mono {g g' : Gh} {w w' : World} {o : Option Nat} {n : Nat} {x : Value} (h : Tag g o n x) (he : Ev g w g' w') : Tag g' o n x := by
  intro r hr
  obtain ⟨a, l, c, h1, h2, h3⟩ := h r hr
  obtain ⟨a', l', c', k1, k2, k3⟩ := he.rw r a l c h1
  refine ⟨a', l', c', k1, by omega, fun e => ?_⟩
  obtain ⟨rfl, rfl⟩ := k3 (by omega)
  obtain rfl : l = l' := by omega
  exact h3 e

theorem Rep.mono {g g' : Gh} {w w' : World} {v : V} {x : Value} (h : Rep w g v x) (he : Ev g w g' w') : Rep w' g' v x := by
  induction h generalizing g' with
  | k v => exact .k v
  | a hl h1 _ ih => exact .a hl h1 fun j u x h h' => ih j u x h h' he
  | t hl _ ih => exact .t hl fun j u x h h' => ih j u x h h' he
  | nil => exact .nil
  | s0 ht => exact .s0 (ht.mono he)
  | se a ht => exact .se a (ht.mono he)
  | s xs hn hm hp hs hx _ ht ih =>
    exact .s xs hn hm hp hs (fun j u hj => by
      obtain ⟨h1, h2, h3⟩ := hx j u hj
      obtain ⟨s1, c1⟩ := he.st _ _ h1 h2
      exact ⟨Nat.lt_of_lt_of_le h1 he.size, s1, c1.trans h3⟩) (fun j u hj => ih j u hj he.bare) (ht.mono he)
  | p h => exact .p (he.bx _ _ h)
  | sb h => exact .sb (he.bx _ _ h)
  | q xs h1 hx _ ih =>
    exact .q xs h1 (fun j u hj => by
      obtain ⟨h1, h2, h3⟩ := hx j u hj
      obtain ⟨s1, c1⟩ := he.st _ _ h1 h2
      exact ⟨Nat.lt_of_lt_of_le h1 he.size, s1, c1.trans h3⟩) (fun j u hj => ih j u hj he.bare)
  | f h1 h2 _ _ ih1 ih2 => exact .f h1 h2 (fun j u x h h' => ih1 j u x h h' he) (fun j u x h h' => ih2 j u x h h' he)
  | i _ ih => exact .i (ih he)
  | w h =>
    obtain ⟨a, l, c, h1, h2, h3⟩ := h
    obtain ⟨a', l', c', k1, k2, k3⟩ := he.rw _ _ _ _ h1
    refine .w ⟨a', l', c', k1, by omega, fun e => ?_⟩
    obtain ⟨rfl, rfl⟩ := k3 (by omega)
    exact h3 (by omega)
  | pw h =>
    obtain ⟨a, l, c, h1, h2, h3⟩ := h
    obtain ⟨a', l', c', k1, k2, k3⟩ := he.rw _ _ _ _ h1
    refine .pw ⟨a', l', c', k1, by omega, fun e => ?_⟩
    obtain ⟨rfl, rfl⟩ := k3 (by omega)
    exact h3 (by omega)
  | mp h => exact .mp (he.bx _ _ h)
  | y h => exact .y (he.bx _ _ h)

theorem Rep.oneCell {g : Gh} {w : World} {v : V} {x : Value} (h : Rep w g v x) (h1 : v.one = true) : x.oneCell' = true := by
  cases h <;> first | exact h1 | rfl | cases h1

/-- A value without the numbers of rows; none, where it points into a box. -/
def V.bare : V → Option V
  | .k v => some (.k v)
  | .a cs => (go cs).map .a
  | .t cs => (go cs).map .t
  | .s _ es => some (.s none es)
  | .nil => some .nil
  | .q cs => some (.q cs)
  | .f fn [] [] => some (.f fn [] [])
  | .i T v => v.bare.map (.i T)
  | _ => none
where go : List V → Option (List V)
  | [] => some []
  | v :: r => match v.bare, go r with
    | some v', some r' => some (v' :: r')
    | _, _ => none

theorem bare_one {v v' : V} (h : v.bare = some v') : v'.one = v.one := by
  cases v <;> try simp only [V.bare] at h
  case k => cases h; rfl
  case a cs => obtain ⟨_, _, rfl⟩ := Option.map_eq_some_iff.1 h; rfl
  case t cs => obtain ⟨_, _, rfl⟩ := Option.map_eq_some_iff.1 h; rfl
  case s => cases h; rfl
  case nil => cases h; rfl
  case p => cases h
  case sb => cases h
  case q => cases h; rfl
  case f fn fi ca => cases fi <;> cases ca <;> simp [V.bare] at h; subst h; rfl
  case i => obtain ⟨_, _, rfl⟩ := Option.map_eq_some_iff.1 h; rfl
  case w => cases h
  case pw => cases h
  case mp => cases h
  case y => cases h

theorem bare_go {cs cs' : List V} (h : V.bare.go cs = some cs') : cs.length = cs'.length ∧ ∀ (j : Nat) (u' : V), cs'[j]? = some u' → ∃ u : V, cs[j]? = some u ∧ u.bare = some u' := by
  induction cs generalizing cs' with
  | nil => simp [V.bare.go] at h; subst h; simp
  | cons v r ih =>
    simp only [V.bare.go] at h
    split at h
    · rename_i v' r' hv hr
      cases h
      obtain ⟨h1, h2⟩ := ih hr
      refine ⟨by simp [h1], fun j u' hj => ?_⟩
      cases j with
      | zero => simp at hj; subst hj; exact ⟨v, by simp, hv⟩
      | succ j => simp at hj; obtain ⟨u, hu, hb⟩ := h2 j u' hj; exact ⟨u, by simpa using hu, hb⟩
    · cases h

theorem Rep.to_bare {g : Gh} {w : World} {v : V} {x : Value} (h : Rep w g v x) : ∀ {v' : V}, v.bare = some v' → Rep w g.bare v' x := by
  induction h with
  | k v => intro v' hb; simp only [V.bare] at hb; cases hb; exact .k v
  | a hl h1 hc ih =>
    intro v' hb
    simp only [V.bare] at hb
    obtain ⟨cs', hg, rfl⟩ := Option.map_eq_some_iff.1 hb
    obtain ⟨e1, e2⟩ := bare_go hg
    refine .a (e1 ▸ hl) (fun u hu => ?_) (fun j u x hj hx => ?_)
    · obtain ⟨j, hj⟩ := List.getElem?_of_mem hu
      obtain ⟨u0, hu0, hb0⟩ := e2 j u hj
      rw [bare_one hb0]; exact h1 u0 (List.mem_of_getElem? hu0)
    · obtain ⟨u0, hu0, hb0⟩ := e2 j u hj
      exact ih j u0 x hu0 hx hb0
  | t hl hc ih =>
    intro v' hb
    simp only [V.bare] at hb
    obtain ⟨cs', hg, rfl⟩ := Option.map_eq_some_iff.1 hb
    obtain ⟨e1, e2⟩ := bare_go hg
    refine .t (e1 ▸ hl) (fun j u x hj hx => ?_)
    obtain ⟨u0, hu0, hb0⟩ := e2 j u hj
    exact ih j u0 x hu0 hx hb0
  | nil => intro v' hb; simp only [V.bare] at hb; cases hb; exact .nil
  | s0 ht => intro v' hb; simp only [V.bare] at hb; cases hb; exact .s0 (fun _ h => by cases h)
  | se a ht => intro v' hb; simp only [V.bare] at hb; cases hb; exact .se a (fun _ h => by cases h)
  | s xs hn hm hp hs hx hc ht ih => intro v' hb; simp only [V.bare] at hb; cases hb; exact .s xs hn hm hp hs hx hc (fun _ h => by cases h)
  | p h => intro v' hb; simp [V.bare] at hb
  | sb h => intro v' hb; simp [V.bare] at hb
  | q xs h1 hx hc ih => intro v' hb; simp only [V.bare] at hb; cases hb; exact .q xs h1 hx hc
  | @f g fn fi ca vs us h1 h2 hf hc ih1 ih2 =>
    intro v' hb
    cases fi <;> cases ca <;> simp [V.bare] at hb
    subst hb
    exact .f h1 h2 (fun j u x h => by simp at h) (fun j u x h => by simp at h)
  | i h ih =>
    intro v' hb
    simp only [V.bare] at hb
    obtain ⟨v1, h1, rfl⟩ := Option.map_eq_some_iff.1 hb
    exact .i (ih h1)
  | w h => intro v' hb; simp [V.bare] at hb
  | pw h => intro v' hb; simp [V.bare] at hb
  | mp h => intro v' hb; simp [V.bare] at hb
  | y h => intro v' hb; simp [V.bare] at hb

/-- What a ghost without boxes and rows knows holds for every ghost. -/
theorem Rep.of_bare {g : Gh} {w : World} {v : V} {x : Value} (h : Rep w g.bare v x) : Rep w g v x :=
  h.mono ⟨Nat.le_refl _, fun _ _ _ hs => ⟨hs, rfl⟩, fun _ _ h => (by cases h), fun _ _ _ _ h => (by cases h)⟩

/-! ### The memory of the call: boxes, rows, buffers, maps -/
/-- A box by its cells; a row that may grow (its elements' type and size, how many there are); a buffer that is written (its elements' type and size, how often it has grown, its elements); a map; another object; one that is gone. -/
inductive M where
  | b (cs : List V)
  | r (E sz n : Nat)
  | w (E sz gen : Nat) (es : List V)
  | m (es : List (Value × V))
  | o (ob : Obj)
  | x
  deriving Inhabited
abbrev Env := List (Nat × V)
abbrev Mem := List (Nat × M)
def aget {α : Type} : List (Nat × α) → Nat → Option α
  | [], _ => none
  | (n, v) :: r, t => cond (Nat.beq n t) (some v) (aget r t)
theorem aget_self {α : Type} (n : Nat) (v : α) (r : List (Nat × α)) : aget ((n, v) :: r) n = some v := by simp [aget]
theorem aget_ne {α : Type} {n t : Nat} (h : n ≠ t) (v : α) (r : List (Nat × α)) : aget ((n, v) :: r) t = aget r t := by
  have : Nat.beq n t = false := by rw [← Bool.not_eq_true]; intro e; exact h (Nat.eq_of_beq_eq_true e)
  simp [aget, this]
theorem aget_cons {α : Type} (n t : Nat) (v : α) (r : List (Nat × α)) : aget ((n, v) :: r) t = if n = t then some v else aget r t := by
  split
  · rename_i h; subst h; exact aget_self ..
  · rename_i h; exact aget_ne h ..

/-- The call's frame: the world at its start, which old cells stayed, which old cells it may write, where what is lent to it lies, which calls wait for its end. -/
structure Fr0 where
  w0 : World
  S0 : Nat → Nat → Prop
  B : Nat → Nat → Prop
  bx0 : Nat → Option (Nat × Nat)
  rw0 : Nat → Option (Option Nat × Nat × Nat)
  D : List Deferred
/-- What is lent has a great number. -/
def Fr0.Big (F : Fr0) : Prop := ∀ i, i < 1000 → F.bx0 i = none ∧ F.rw0 i = none
def Fr0.wr (F : Fr0) (b o : Nat) : Prop := F.w0.heap.size ≤ b ∨ F.B b o

/-- Where an object lies. -/
def fp (g : Gh) (i : Nat) : M → Nat → Nat → Prop
  | .b cs, b, o => ∃ off, g.bx i = some (b, off) ∧ off ≤ o ∧ o < off + cs.length
  | .r .., b, _ => ∃ l c, g.rw i = some (some b, l, c)
  | .w .., b, _ => ∃ l c, g.rw i = some (some b, l, c)
  | .m _, b, _ => ∃ off, g.bx i = some (b, off)
  | .o _, b, _ => ∃ off, g.bx i = some (b, off)
  | .x, _, _ => False

/-- A row of the call's own: from its block's beginning on, nothing of it frozen. -/
def _root_.Go.World.oRow (w : World) (base : Nat) (e : TypeId) (size : Nat) (v : Value) (n : Nat) (xs : List Value) : Prop :=
  xs.length = n * size ∧
  ((v = .slice none 0 0 ∧ n = 0) ∨
   ∃ g cap cur fz, v = .slice (some ⟨g, 0, none⟩) n cap ∧ base ≤ g ∧ w.heap[g]? = some (.cells cur e fz) ∧ n ≤ cap ∧ cap ≤ maxLen ∧ cur.size = cap * size ∧ cur.toList.take (n * size) = xs ∧ (fz.2 = fz.1 ∨ cur.size ≤ fz.1))
theorem oRow_nil (w : World) (base : Nat) (e : TypeId) (size : Nat) : w.oRow base e size (.slice none 0 0) 0 [] := ⟨by simp, .inl ⟨rfl, rfl⟩⟩
theorem oRow_lt {w : World} {base : Nat} {e : TypeId} {size : Nat} {v : Value} {n : Nat} {xs : List Value} (h : w.oRow base e size v n xs) : ∀ k, v.ownBlock = some k → base ≤ k ∧ k < w.heap.size := by
  intro k hk
  rcases h.2 with ⟨rfl, _⟩ | ⟨g, cap, cur, fz, rfl, hb, hg, _⟩
  · simp [Value.ownBlock] at hk
  · simp [Value.ownBlock] at hk
    subst hk
    exact ⟨hb, (Array.getElem?_eq_some_iff.1 hg).1⟩
theorem oRow_cells {w : World} {base : Nat} {e : TypeId} {size : Nat} {v : Value} {n : Nat} {xs : List Value} (h : w.oRow base e size v n xs) {g : Nat} (hg : v.ownBlock = some g) : ∀ j u, xs[j]? = some u → w.cell? ((⟨g, 0, none⟩ : Addr).add j) = some u := by
  intro j u hu
  rcases h.2 with ⟨rfl, _⟩ | ⟨g', cap, cur, fz, rfl, _, hgg, _, _, _, htake, _⟩
  · simp [Value.ownBlock] at hg
  · simp [Value.ownBlock] at hg
    subst hg
    rw [Addr.add_lit, Nat.zero_add, cell_of_row w g' j cur e fz hgg]
    rw [← htake, List.getElem?_take] at hu
    split at hu
    · simpa using hu
    · cases hu
theorem frozen_oRow {w : World} {g j : Nat} {cur : Array Value} {e : TypeId} {fz : Nat × Nat} (hg : w.heap[g]? = some (.cells cur e fz)) (hf : fz.2 = fz.1 ∨ cur.size ≤ fz.1) (hj : j < cur.size) : w.frozen? ⟨g, j, none⟩ = false := by
  simp [World.frozen?, hg]
  omega
structure BoxAt (g : Gh) (w : World) (b off : Nat) (cs : List V) : Prop where
  one : ∀ u ∈ cs, u.one = true
  at_ : ∀ (j : Nat) u, cs[j]? = some u → ¬ g.S b (off + j) ∧ w.frozen? ⟨b, off + j, none⟩ = false ∧ ∃ x, w.cell? ⟨b, off + j, none⟩ = some x ∧ Rep w g u x
structure RowAt (g : Gh) (w : World) (a : Option Nat) (E sz n c : Nat) : Prop where
  pos : 0 < sz
  own : ∃ xs, w.oRow 0 E sz (.slice (a.map fun b => ⟨b, 0, none⟩) n c) n xs
  free : ∀ b, a = some b → ∀ o, n * sz ≤ o → ¬ g.S b o
structure BufAt (g : Gh) (w : World) (a : Option Nat) (E sz : Nat) (es : List V) (c : Nat) : Prop where
  pos : 0 < sz
  cells : ∀ e ∈ es, e.cells.length = sz ∧ ∀ u ∈ e.cells, u.one = true
  own : ∃ xs, w.oRow 0 E sz (.slice (a.map fun b => ⟨b, 0, none⟩) es.length c) es.length xs ∧ ∀ (j : Nat) u x, (es.flatMap V.cells)[j]? = some u → xs[j]? = some x → Rep w g.bare u x
  free : ∀ b, a = some b → ∀ o, ¬ g.S b o
structure MapAt (g : Gh) (w : World) (b : Nat) (es : List (Value × V)) : Prop where
  own : ∃ (en : Array MapEntry) (clock : Nat), w.heap[b]? = some (.map en clock) ∧ en.size = es.length ∧ (∀ (j : Nat) e, en[j]? = some e → e.born < clock) ∧ (en.toList.map (·.born)).Nodup ∧
    ∀ (j : Nat) k v e, es[j]? = some (k, v) → en[j]? = some e → e.key = k ∧ Rep w g.bare v e.val
  free : ∀ o, ¬ g.S b o

/-- An object lies in the world as it is told. -/
inductive ObjAt (g : Gh) (w : World) (i : Nat) : M → Prop
  | b {cs : List V} {b off : Nat} (hg : g.bx i = some (b, off)) (hb : b < w.heap.size) (h : BoxAt g w b off cs) : ObjAt g w i (.b cs)
  | r {E sz n c : Nat} {a : Option Nat} (hg : g.rw i = some (a, n, c)) (h : RowAt g w a E sz n c) : ObjAt g w i (.r E sz n)
  | w {E sz gen c : Nat} {es : List V} {a : Option Nat} (hg : g.rw i = some (a, gen, c)) (h : BufAt g w a E sz es c) : ObjAt g w i (.w E sz gen es)
  | m {es : List (Value × V)} {b off : Nat} (hg : g.bx i = some (b, off)) (h : MapAt g w b es) : ObjAt g w i (.m es)
  | o {ob : Obj} {b off : Nat} (hg : g.bx i = some (b, off)) (h : w.heap[b]? = some ob) (hS : ∀ o, ¬ g.S b o) : ObjAt g w i (.o ob)
  | x : ObjAt g w i .x

/-- What is lent lies where it lay. -/
structure LocOk (F : Fr0) (g : Gh) : Prop where
  bx : ∀ i z, F.bx0 i = some z → g.bx i = some z
  rw : ∀ i a l c, F.rw0 i = some (a, l, c) → ∃ a' l' c', g.rw i = some (a', l', c') ∧ l ≤ l' ∧ (l = l' → a = a' ∧ c = c')
theorem LocOk.ev {F : Fr0} {g g' : Gh} {w w' : World} (h : LocOk F g) (he : Ev g w g' w') : LocOk F g' := by
  refine ⟨fun i z hz => he.bx i z (h.bx i z hz), fun i a l c hr => ?_⟩
  obtain ⟨a1, l1, c1, h1, h2, h3⟩ := h.rw i a l c hr
  obtain ⟨a2, l2, c2, k1, k2, k3⟩ := he.rw i a1 l1 c1 h1
  refine ⟨a2, l2, c2, k1, by omega, fun e => ?_⟩
  obtain ⟨rfl, rfl⟩ := h3 (by omega)
  exact k3 (by omega)
structure RelM (F : Fr0) (g : Gh) (mem : Mem) (w : World) : Prop where
  ob : ∀ i m, aget mem i = some m → ObjAt g w i m
  wr : ∀ i m b o, aget mem i = some m → fp g i m b o → F.wr b o
  dj : ∀ i j m m' b o, i ≠ j → aget mem i = some m → aget mem j = some m' → fp g i m b o → fp g j m' b o → False
  nbx : ∀ i, aget mem i = none → g.bx i = none
  nrw : ∀ i, aget mem i = none → g.rw i = none
  fut : ∀ b o, w.heap.size ≤ b → g.S b o
  loc : LocOk F g

/-- Since the call began: nothing old has turned but what may. -/
structure Kept (F : Fr0) (g : Gh) (w : World) : Prop where
  os : w.os = F.w0.os
  tape : w.tape = F.w0.tape
  output : w.output = F.w0.output
  size : F.w0.heap.size ≤ w.heap.size
  blk : ∀ b, b < F.w0.heap.size → (∀ o, ¬ F.B b o) → w.heap[b]? = F.w0.heap[b]?
  cell : ∀ b o, b < F.w0.heap.size → ¬ F.B b o → w.cell? ⟨b, o, none⟩ = F.w0.cell? ⟨b, o, none⟩ ∧ w.frozen? ⟨b, o, none⟩ = F.w0.frozen? ⟨b, o, none⟩
  S1 : ∀ b o, b < F.w0.heap.size → ¬ F.B b o → g.S b o → F.S0 b o
  S2 : ∀ b o, b < F.w0.heap.size → F.S0 b o → g.S b o
  cellS : ∀ b o, b < F.w0.heap.size → F.S0 b o → w.cell? ⟨b, o, none⟩ = F.w0.cell? ⟨b, o, none⟩

/-- The state of the walk and that of the model. -/
structure Rel (F : Fr0) (N : Nat) (g : Gh) (env : Env) (mem : Mem) (a : Act) (w : World) : Prop where
  env : ∀ t v, aget env t = some v → ∃ x, a.tmps[t]? = some x ∧ Rep w g v x
  mem : RelM F g mem w
  kept : Kept F g w
  defers : a.defers = F.D
  size : a.tmps.size = N
  big : F.Big
end Lf
end Go.Proofs.Ytgeccggkdgpkiaa

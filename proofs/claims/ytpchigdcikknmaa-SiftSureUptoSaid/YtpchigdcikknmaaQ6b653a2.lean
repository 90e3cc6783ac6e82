/- A part of the proof: texts joined. -/
import Derived.Test.YtpchigdcikknmaaQ539bc58
/- What the given statement tells of an argument: a lifted value by a datum of one's own, and a bound of its bulk. -/
namespace Go.Proofs.Ytpchigdcikknmaa
open Go.RowKit Rg Rp Go.WideShapes Go.ChangeShapes
namespace Lf
/-- Cells and what they read. -/
def RO (W : World) : List V → List Value → Prop
  | [], [] => True
  | u :: us, c :: cs => (u.one = true ∧ Rep W allS u c) ∧ RO W us cs
  | _, _ => False
theorem RO.append {W : World} : ∀ {us : List V} {cs : List Value} {vs : List V} {ds : List Value}, RO W us cs → RO W vs ds → RO W (us ++ vs) (cs ++ ds)
  | [], [], _, _, _, h => h
  | u :: us, c :: cs, _, _, h, k => ⟨h.1, RO.append h.2 k⟩
  | [], _ :: _, _, _, h, _ => h.elim
  | _ :: _, [], _, _, h, _ => h.elim
theorem RO.spec {W : World} : ∀ {us : List V} {cs : List Value}, RO W us cs → us.length = cs.length ∧ ∀ (j : Nat) u c, us[j]? = some u → cs[j]? = some c → u.one = true ∧ Rep W allS u c
  | [], [], _ => ⟨rfl, fun j u c h => by simp at h⟩
  | u :: us, c :: cs, h => by
    obtain ⟨h1, h2⟩ := RO.spec h.2
    refine ⟨by simp [h1], fun j a b ha hb => ?_⟩
    cases j with
    | zero => simp at ha hb; subst ha; subst hb; exact h.1
    | succ j => simp at ha hb; exact h2 j a b ha hb
  | [], _ :: _, h => h.elim
  | _ :: _, [], h => h.elim
theorem RO.flatten {W : World} : ∀ {uss : List (List V)} {css : List (List Value)}, uss.length = css.length → (∀ (j : Nat) us cs, uss[j]? = some us → css[j]? = some cs → RO W us cs) → RO W uss.flatten css.flatten
  | [], [], _, _ => trivial
  | us :: uss, cs :: css, hl, h => by
    rw [List.flatten_cons, List.flatten_cons]
    exact (h 0 us cs rfl rfl).append (RO.flatten (by simpa using hl) fun j a b ha hb => h (j + 1) a b (by simpa using ha) (by simpa using hb))
  | [], _ :: _, hl, _ => by simp at hl
  | _ :: _, [], hl, _ => by simp at hl
theorem mapM_some {α β : Type} {f : α → Option β} : ∀ {l : List α} {r : List β}, l.mapM f = some r → r.length = l.length ∧ ∀ (j : Nat) a, l[j]? = some a → ∃ b, r[j]? = some b ∧ f a = some b
  | [], r, h => by simp at h; subst h; simp
  | a :: l, r, h => by
    simp only [List.mapM_cons, Option.bind_eq_bind, Option.pure_def] at h
    obtain ⟨b, hb, h⟩ := Option.bind_eq_some_iff.1 h
    obtain ⟨bs, hbs, h⟩ := Option.bind_eq_some_iff.1 h
    cases h
    obtain ⟨h1, h2⟩ := mapM_some hbs
    refine ⟨by simp [h1], fun j x hj => ?_⟩
    cases j with
    | zero => simp at hj; subst hj; exact ⟨b, rfl, hb⟩
    | succ j => simp at hj; exact h2 j x hj
theorem list_choose {α : Type} {p : Nat → α → Prop} : ∀ (n : Nat), (∀ j, j < n → ∃ x, p j x) → ∃ xs : List α, xs.length = n ∧ ∀ j x, xs[j]? = some x → p j x
  | 0, _ => ⟨[], rfl, by simp⟩
  | n + 1, h => by
    obtain ⟨xs, hl, hx⟩ := list_choose n fun j hj => h j (by omega)
    obtain ⟨x, hp⟩ := h n (by omega)
    refine ⟨xs ++ [x], by simp [hl], fun j y hj => ?_⟩
    rcases Nat.lt_or_ge j xs.length with hlt | hge
    · rw [List.getElem?_append_left hlt] at hj; exact hx j y hj
    · rw [List.getElem?_append_right hge] at hj
      have : j - xs.length = 0 := by
        rcases Nat.eq_zero_or_pos (j - xs.length) with h0 | h0
        · exact h0
        · rw [List.getElem?_eq_none (by simp; omega)] at hj; cases hj
      rw [this] at hj
      simp at hj; subst hj
      obtain rfl : j = n := by omega
      exact hp
theorem range_flatten {s : Nat} : ∀ {n : Nat} {cs : List Value}, cs.length = n * s → ((List.range n).map fun i => (cs.drop (i * s)).take s).flatten = cs
  | 0, cs, h => by simp at h; subst h; rfl
  | n + 1, cs, h => by
    rw [List.range_succ_eq_map, List.map_cons, List.flatten_cons, List.map_map, Nat.zero_mul, List.drop_zero]
    have e := range_flatten (s := s) (n := n) (cs := cs.drop s) (by rw [List.length_drop, h, Nat.succ_mul]; omega)
    have e2 : ((List.range n).map ((fun i => (cs.drop (i * s)).take s) ∘ Nat.succ)) = (List.range n).map fun i => ((cs.drop s).drop (i * s)).take s := by
      refine List.map_congr_left fun i _ => ?_
      simp only [Function.comp, List.drop_drop, Nat.succ_mul]
      rw [Nat.add_comm]
    rw [e2, e]
    exact List.take_append_drop _ _
theorem flat_inv {α : Type} {f : α → List V} {k : Nat} (hk : 0 < k) : ∀ {l : List α} {J : Nat} {u : V}, (∀ a ∈ l, (f a).length = k) → (l.flatMap f)[J]? = some u → ∃ a, l[J / k]? = some a ∧ (f a)[J % k]? = some u
  | [], J, u, _, h => by simp at h
  | a :: l, J, u, hf, h => by
    rw [List.flatMap_cons] at h
    have ha := hf a (by simp)
    rcases Nat.lt_or_ge J k with hlt | hge
    · rw [List.getElem?_append_left (by omega)] at h
      exact ⟨a, by rw [Nat.div_eq_of_lt hlt]; rfl, by rw [Nat.mod_eq_of_lt hlt]; exact h⟩
    · rw [List.getElem?_append_right (by omega), ha] at h
      obtain ⟨b, h1, h2⟩ := flat_inv hk (fun a ha => hf a (by simp [ha])) h
      obtain ⟨J', rfl⟩ : ∃ J', J = J' + k := ⟨J - k, by omega⟩
      rw [Nat.add_sub_cancel] at h1 h2
      exact ⟨b, by rw [Nat.add_div_right _ hk]; exact h1, by rw [Nat.add_mod_right]; exact h2⟩
theorem sum_le {α β : Type} {f : α → Nat} {g : β → Nat} : ∀ {l : List α} {m : List β}, l.length = m.length → (∀ (j : Nat) a b, l[j]? = some a → m[j]? = some b → f a ≤ g b) → (l.map f).sum ≤ (m.map g).sum
  | [], [], _, _ => Nat.le_refl _
  | a :: l, b :: m, hl, h => by
    simp only [List.map_cons, List.sum_cons]
    exact Nat.add_le_add (h 0 a b rfl rfl) (sum_le (by simpa using hl) fun j x y hx hy => h (j + 1) x y (by simpa using hx) (by simpa using hy))
  | [], _ :: _, hl, _ => by simp at hl
  | _ :: _, [], hl, _ => by simp at hl
section
variable {H : Type} {enc : TypeId × Value → H} {P : Program} {W : World}
theorem sum_bulk (xs : List (DataW H × List MemPlace)) : (xs.map fun x => Rows.uptoBulk x.1).sum = Rows.uptoBulkAll (xs.map (·.1)) := by
  induction xs with
  | nil => simp [Rows.uptoBulkAll]
  | cons x r ih => simp [Rows.uptoBulkAll, ih]
/-- Cells of a type, as the given reader takes them: lifted by a datum of one's own. -/
structure Opn (enc : TypeId × Value → H) (P : Program) (W : World) (n T : Nat) {α : Type} (f : α → List V) (ok : α → Prop) (sz : α → Nat) : Prop where
  go : ∀ cs x, DataW.trod enc P W 0 (fun _ => true) true n T cs = some x → ∃ a, RO W (f a) cs ∧ ok a ∧ sz a ≤ Rows.uptoBulk x.1
theorem Opn.zero {T : Nat} {α : Type} {f : α → List V} {ok : α → Prop} {sz : α → Nat} : Opn enc P W 0 T f ok sz := ⟨fun cs x h => by simp [DataW.trod] at h⟩
theorem Opn.map {n T : Nat} {α β : Type} {f : α → List V} {ok : α → Prop} {sz : α → Nat} {f' : β → List V} {ok' : β → Prop} {sz' : β → Nat} (g : α → β) (h : Opn enc P W n T f ok sz) (hf : ∀ a, ok a → f' (g a) = f a) (hok : ∀ a, ok a → ok' (g a)) (hs : ∀ a, ok a → sz' (g a) ≤ sz a) : Opn enc P W n T f' ok' sz' :=
  ⟨fun cs x hx => by
    obtain ⟨a, h1, h2, h3⟩ := h.go cs x hx
    exact ⟨g a, by rw [hf a h2]; exact h1, hok a h2, Nat.le_trans (hs a h2) h3⟩⟩
theorem Opn.bool {n T : Nat} (hT : P.underlying T = some .bool) : Opn enc P W n T (fun b : Bool => [.k (.bool b)]) (fun _ => True) (fun _ => 1) := ⟨fun cs x h => by
  cases n with
  | zero => simp [DataW.trod] at h
  | succ n =>
    unfold DataW.trod at h
    rw [hT] at h
    split at h <;> rename_i hu <;> first | (cases hu; done) | skip
    all_goals first | (cases h; exact ⟨_, ⟨⟨rfl, .k _⟩, trivial⟩, trivial, by simp [Rows.uptoBulk]⟩) | cases h⟩
theorem Opn.int {n T : Nat} {k : IntKind} (hT : P.underlying T = some (.int k)) : Opn enc P W n T (fun z : Int => [.k (.int k z)]) (fun z => k.min ≤ z ∧ z ≤ k.max) (fun _ => 1) := ⟨fun cs x h => by
  cases n with
  | zero => simp [DataW.trod] at h
  | succ n =>
    unfold DataW.trod at h
    rw [hT] at h
    split at h <;> rename_i hu <;> first | (cases hu; done) | skip
    all_goals first | cases h | skip
    cases hu
    split at h
    · rename_i hw
      cases h
      obtain ⟨rfl, hw⟩ := hw
      exact ⟨_, ⟨⟨rfl, .k _⟩, trivial⟩, by simpa [Lit.wf] using hw, by simp [Rows.uptoBulk]⟩
    · cases h⟩
theorem Opn.str {n T : Nat} (hT : P.underlying T = some .string) : Opn enc P W n T (fun s : ByteArray => [.k (.string s)]) (fun s => s.size ≤ maxLen) (fun s => s.size + 1) := ⟨fun cs x h => by
  cases n with
  | zero => simp [DataW.trod] at h
  | succ n =>
    unfold DataW.trod at h
    rw [hT] at h
    split at h <;> rename_i hu <;> first | (cases hu; done) | skip
    all_goals first | cases h | skip
    split at h
    · rename_i hw
      cases h
      exact ⟨_, ⟨⟨rfl, .k _⟩, trivial⟩, hw, by simp [Rows.uptoBulk]⟩
    · cases h⟩
/-- A slice. -/
theorem Opn.sl {n T e k : Nat} {α : Type} {f : α → List V} {ok : α → Prop} {sz : α → Nat} (p : α → V) (hT : P.underlying T = some (.slice e)) (hc : P.cellsOf e = k) (hk : 0 < k) (hp : ∀ a, (p a).cells = f a) (h : Opn enc P W (n - 1) e f ok sz) :
    Opn enc P W n T (fun l : List α => [.s none (l.map p)]) (fun l => ∀ a ∈ l, ok a) (fun l => (l.map sz).sum + 1) := ⟨fun cs x hx => by
  cases n with
  | zero => simp [DataW.trod] at hx
  | succ n =>
    unfold DataW.trod at hx
    rw [hT] at hx
    split at hx <;> rename_i hu <;> first | (cases hu; done) | skip
    all_goals first | (cases hx; exact ⟨[], ⟨⟨rfl, .s0 (fun _ h => by cases h)⟩, trivial⟩, by simp, by simp [Rows.uptoBulk]⟩) | skip
    all_goals first | cases hx | skip
    cases hu
    rename_i a len cap
    simp only [hc] at hx
    split at hx
    · rename_i hb
      obtain ⟨_, hlc, hcm⟩ := hb
      obtain ⟨elems, he, hx⟩ := Option.bind_eq_some_iff.1 hx
      obtain ⟨rest, hr, hx⟩ := Option.map_eq_some_iff.1 hx
      subst hx
      obtain ⟨e1, e2⟩ := mapM_some he
      rw [List.length_range] at e1
      have key : ∀ j, j < len → ∃ y : α, (∃ b, elems[j]? = some b ∧ ok y ∧ sz y ≤ Rows.uptoBulk b.1) ∧ (f y).length = k ∧ ∀ i, i < k → ∃ u c, (f y)[i]? = some u ∧ W.cell? ((a.add (j * k)).add i) = some c ∧ u.one = true ∧ Rep W allS u c := fun j hj => by
        obtain ⟨b, h1, h2⟩ := e2 j j (by rw [List.getElem?_range hj])
        obtain ⟨ds, h3, h4⟩ := Option.bind_eq_some_iff.1 h2
        obtain ⟨y, k1, k2, k3⟩ := h.go ds b h4
        unfold World.cells? at h3
        split at h3
        · obtain ⟨m1, m2⟩ := mapM_some h3
          rw [List.length_range] at m1
          obtain ⟨l1, l2⟩ := k1.spec
          refine ⟨y, ⟨b, h1, k2, k3⟩, by omega, fun i hi => ?_⟩
          obtain ⟨c, c1, c2⟩ := m2 i i (by rw [List.getElem?_range hi])
          have hu : (f y)[i]? = some (f y)[i] := List.getElem?_eq_getElem (by omega)
          exact ⟨_, c, hu, c2, l2 i _ c hu c1⟩
        · cases h3
      obtain ⟨ys, hyl, hys⟩ := list_choose len key
      have hspot : 0 < cap → a.spot = none := fun h0 => by
        have : ∃ v : DataW H × List MemPlace, ((W.cells? 0 (a.add (0 * k)) k).bind (DataW.trod enc P W 0 (fun _ => true) true n e)) = some v := by
          rcases Nat.eq_zero_or_pos len with hl | hl
          · subst hl
            simp only [if_true] at hr
            obtain ⟨_, r2⟩ := mapM_some hr
            obtain ⟨v, _, hv⟩ := r2 0 0 (by rw [List.getElem?_range (by omega)])
            exact ⟨v, by simpa using hv⟩
          · obtain ⟨v, _, hv⟩ := e2 0 0 (by rw [List.getElem?_range hl])
            exact ⟨v, hv⟩
        obtain ⟨v, hv⟩ := this
        obtain ⟨ds, h3, _⟩ := Option.bind_eq_some_iff.1 hv
        unfold World.cells? at h3
        split at h3
        · obtain ⟨_, m2⟩ := mapM_some h3
          obtain ⟨c, _, c2⟩ := m2 0 0 (by rw [List.getElem?_range hk])
          obtain ⟨b, o, s⟩ := a
          cases s with
          | none => rfl
          | some s =>
            exfalso
            simp only [Addr.add, Nat.zero_mul] at c2
            simp [World.cell?] at c2
            split at c2 <;> simp at c2
        · cases h3
      refine ⟨ys, ⟨⟨rfl, ?_⟩, trivial⟩, fun y hy => ?_, ?_⟩
      · rcases Nat.eq_zero_or_pos cap with h0 | h0
        · obtain rfl : len = 0 := by omega
          subst h0
          have : ys = [] := List.eq_nil_of_length_eq_zero hyl
          subst this
          exact .se a (fun _ h => by cases h)
        · have hsp := hspot h0
          obtain ⟨b, o, s⟩ := a
          simp only at hsp
          subst hsp
          have hfl : ∀ y ∈ ys, (f y).length = k := fun y hy => by
            obtain ⟨j, hj⟩ := List.getElem?_of_mem hy
            exact (hys j y hj).2.1
          have hfe : (ys.map p).flatMap V.cells = ys.flatMap f := by
            rw [List.flatMap_map]
            congr 1
            funext y; exact hp y
          have hat : ∀ (J : Nat) u, (ys.flatMap f)[J]? = some u → ∃ c, W.cell? ⟨b, o + J, none⟩ = some c ∧ u.one = true ∧ Rep W allS u c := fun J u hu => by
            obtain ⟨y, h1, h2⟩ := flat_inv hk hfl hu
            obtain ⟨_, _, h3⟩ := hys _ y h1
            obtain ⟨u', c, k1, k2, k3⟩ := h3 (J % k) (Nat.mod_lt _ hk)
            rw [k1] at h2; cases h2
            rw [Addr.add_lit, Addr.add_lit, Nat.add_assoc, Nat.mul_comm, Nat.div_add_mod] at k2
            exact ⟨c, k2, k3⟩
          have hlen : (ys.map p).length = len := by simpa using hyl
          rw [← hlen]
          refine .s (size := k) (fun J => (W.cell? ⟨b, o + J, none⟩).getD undef) (by omega) hcm hk (fun v hv => ?_) (fun J u hu => ?_) (fun J u hu => ?_) (fun _ h => by cases h)
          · obtain ⟨y, hy, rfl⟩ := List.mem_map.1 hv
            rw [hp]
            refine ⟨hfl y hy, fun u hu => ?_⟩
            obtain ⟨J, hJ⟩ := List.getElem?_of_mem (List.mem_flatMap.2 ⟨y, hy, hu⟩)
            obtain ⟨_, _, h1, _⟩ := hat J u hJ
            exact h1
          · rw [hfe] at hu
            obtain ⟨c, h1, _⟩ := hat J u hu
            exact ⟨World.block_lt_of_cell? W ⟨b, o + J, none⟩ (by rw [h1]), trivial, by rw [h1]; rfl⟩
          · rw [hfe] at hu
            obtain ⟨c, h1, _, h2⟩ := hat J u hu
            rw [h1]
            exact h2
      · obtain ⟨j, hj⟩ := List.getElem?_of_mem hy
        obtain ⟨⟨b, _, h1, _⟩, _⟩ := hys j y hj
        exact h1
      · have := sum_le (f := sz) (g := fun x : DataW H × List MemPlace => Rows.uptoBulk x.1) (l := ys) (m := elems) (by omega) fun j y b hy hb => by
          obtain ⟨⟨b', hb', _, h1⟩, _⟩ := hys j y hy
          rw [hb] at hb'; cases hb'
          exact h1
        rw [sum_bulk] at this
        simp only [Rows.uptoBulk]
        omega
    · cases hx⟩
/-- A struct's fields, from a place on. -/
def tileB (P : Program) (total : Nat) : Nat → List Field → Bool
  | off, [] => Nat.beq off total
  | off, f :: r => Nat.beq f.offset off && tileB P total (off + P.cellsOf f.type) r
structure OpnFs (enc : TypeId × Value → H) (P : Program) (W : World) (n : Nat) (fs : List Field) {α : Type} (f : α → List V) (ok : α → Prop) (sz : α → Nat) : Prop where
  go : ∀ (total off : Nat) (cs : List Value) (xs : List (DataW H × List MemPlace)), tileB P total off fs = true → cs.length = total → (fs.mapM fun fl => DataW.trod enc P W 0 (fun _ => true) true n fl.type ((cs.drop fl.offset).take (P.cellsOf fl.type))) = some xs → ∃ a, RO W (f a) (cs.drop off) ∧ ok a ∧ sz a ≤ Rows.uptoBulkAll (xs.map (·.1))
theorem OpnFs.nil {n : Nat} : OpnFs enc P W n [] (fun _ : Unit => []) (fun _ => True) (fun _ => 0) := ⟨fun total off cs xs ht hl hx => by
  have : off = total := Nat.eq_of_beq_eq_true ht
  refine ⟨(), ?_, trivial, Nat.zero_le _⟩
  rw [List.drop_of_length_le (by omega)]
  trivial⟩
theorem OpnFs.cons {n : Nat} {fl : Field} {fs : List Field} {α β : Type} {f : α → List V} {ok : α → Prop} {sz : α → Nat} {f' : β → List V} {ok' : β → Prop} {sz' : β → Nat} (h : Opn enc P W n fl.type f ok sz) (k : OpnFs enc P W n fs f' ok' sz') :
    OpnFs enc P W n (fl :: fs) (fun x : α × β => f x.1 ++ f' x.2) (fun x => ok x.1 ∧ ok' x.2) (fun x => sz x.1 + sz' x.2) := ⟨fun total off cs xs ht hl hx => by
  simp only [tileB, Bool.and_eq_true] at ht
  have ho : fl.offset = off := Nat.eq_of_beq_eq_true ht.1
  simp only [List.mapM_cons, Option.bind_eq_bind, Option.pure_def] at hx
  obtain ⟨b, hb, hx⟩ := Option.bind_eq_some_iff.1 hx
  obtain ⟨bs, hbs, hx⟩ := Option.bind_eq_some_iff.1 hx
  cases hx
  obtain ⟨a, a1, a2, a3⟩ := h.go _ _ hb
  obtain ⟨c, c1, c2, c3⟩ := k.go _ _ _ _ ht.2 hl hbs
  refine ⟨(a, c), ?_, ⟨a2, c2⟩, by simp only [List.map_cons, Rows.uptoBulkAll]; omega⟩
  have := a1.append c1
  rw [ho, ← List.drop_drop, List.take_append_drop] at this
  exact this⟩
theorem Opn.st {n T : Nat} {fs : Array Field} {α : Type} {f : α → List V} {ok : α → Prop} {sz : α → Nat} (hT : P.underlying T = some (.struct fs)) (ht : tileB P (P.cellsOf T) 0 fs.toList = true) (h : OpnFs enc P W (n - 1) fs.toList f ok sz) :
    Opn enc P W n T f ok (fun a => sz a + 1) := ⟨fun cs x hx => by
  cases n with
  | zero => simp [DataW.trod] at hx
  | succ n =>
    have hx : (if cs.length = P.cellsOf T then (fs.toList.mapM fun fl => DataW.trod enc P W 0 (fun _ => true) true n fl.type ((cs.drop fl.offset).take (P.cellsOf fl.type))).map fun xs => (DataW.agg (xs.map (·.1)), xs.flatMap (·.2)) else none) = some x := by
      unfold DataW.trod at hx
      rw [hT] at hx
      exact hx
    split at hx
    · rename_i hl
      obtain ⟨xs, hxs, hx⟩ := Option.map_eq_some_iff.1 hx
      subst hx
      obtain ⟨a, h1, h2, h3⟩ := h.go _ _ _ _ ht hl hxs
      rw [List.drop_zero] at h1
      exact ⟨a, h1, h2, by simp only [Rows.uptoBulk]; omega⟩
    · cases hx⟩
/-- An array. -/
theorem Opn.ar {n T m e : Nat} {α : Type} {f : α → List V} {ok : α → Prop} {sz : α → Nat} (hT : P.underlying T = some (.array m e)) (hc : P.cellsOf T = m * P.cellsOf e) (h : Opn enc P W (n - 1) e f ok sz) :
    Opn enc P W n T (fun l : List α => l.flatMap f) (fun l => l.length = m ∧ ∀ a ∈ l, ok a) (fun l => (l.map sz).sum + 1) := ⟨fun cs x hx => by
  cases n with
  | zero => simp [DataW.trod] at hx
  | succ n =>
    have hx : (if cs.length = P.cellsOf T then ((List.range m).mapM fun i => DataW.trod enc P W 0 (fun _ => true) true n e ((cs.drop (i * P.cellsOf e)).take (P.cellsOf e))).map fun xs => (DataW.agg (xs.map (·.1)), xs.flatMap (·.2)) else none) = some x := by
      unfold DataW.trod at hx
      rw [hT] at hx
      exact hx
    split at hx
    · rename_i hl
      obtain ⟨xs, hxs, hx⟩ := Option.map_eq_some_iff.1 hx
      subst hx
      obtain ⟨e1, e2⟩ := mapM_some hxs
      rw [List.length_range] at e1
      obtain ⟨ys, hyl, hys⟩ := list_choose (p := fun j (y : α) => (∃ b, xs[j]? = some b ∧ ok y ∧ sz y ≤ Rows.uptoBulk b.1) ∧ RO W (f y) ((cs.drop (j * P.cellsOf e)).take (P.cellsOf e))) m fun j hj => by
        obtain ⟨b, h1, h2⟩ := e2 j j (by rw [List.getElem?_range hj])
        obtain ⟨y, k1, k2, k3⟩ := h.go _ b h2
        exact ⟨y, ⟨b, h1, k2, k3⟩, k1⟩
      refine ⟨ys, ?_, ⟨hyl, fun y hy => ?_⟩, ?_⟩
      · have hrf := range_flatten (s := P.cellsOf e) (n := m) (cs := cs) (by rw [hl, hc])
        rw [← hrf, List.flatMap]
        refine RO.flatten (by simp [hyl]) fun j us ds h1 h2 => ?_
        rw [List.getElem?_map] at h1 h2
        obtain ⟨y, hy, rfl⟩ := Option.map_eq_some_iff.1 h1
        obtain ⟨i, hi, rfl⟩ := Option.map_eq_some_iff.1 h2
        have hjl : j < m := by have := (List.getElem?_eq_some_iff.1 hy).1; omega
        rw [List.getElem?_range hjl] at hi
        cases hi
        exact (hys j y hy).2
      · obtain ⟨j, hj⟩ := List.getElem?_of_mem hy
        obtain ⟨⟨b, _, h1, _⟩, _⟩ := hys j y hj
        exact h1
      · have := sum_le (f := sz) (g := fun x : DataW H × List MemPlace => Rows.uptoBulk x.1) (l := ys) (m := xs) (by omega) fun j y b hy hb => by
          obtain ⟨⟨b', hb', _, h1⟩, _⟩ := hys j y hy
          rw [hb] at hb'; cases hb'
          exact h1
        rw [sum_bulk] at this
        simp only [Rows.uptoBulk]
        omega
    · cases hx⟩
/-! ### Arguments -/
/-- A struct or an array. -/
def aggT (P : Program) (t : Nat) : Bool :=
  match P.underlying t with
  | some (.struct _) | some (.array _ _) => true
  | _ => false
theorem Opn.argA {T base : Nat} {α : Type} {f : α → List V} {ok : α → Prop} {sz : α → Nat} {v : Value} {d : DataW H} {ps : List MemPlace} (h : ∀ n, Opn enc P W n T f ok sz) (ha : aggT P T = true) (hv : Value.okWide P W .any base T v) (ht : DataW.Trod enc P W 0 (fun _ => true) true T v d ps) :
    ∃ a, Rep W allS (.a (f a)) v ∧ ok a ∧ sz a ≤ Rows.uptoBulk d := by
  obtain ⟨n, hn⟩ := ht
  obtain ⟨a, h1, h2, h3⟩ := (h n).go _ _ hn
  obtain ⟨cs, rfl⟩ : ∃ cs, v = .agg cs := by
    unfold Value.okWide at hv
    unfold aggT at ha
    split at hv
    · obtain ⟨cs, rfl, _⟩ := hv; exact ⟨cs, rfl⟩
    · obtain ⟨cs, rfl, _⟩ := hv; exact ⟨cs, rfl⟩
    · rename_i k1 k2
      split at ha
      · rename_i fs hu; exact absurd hu (k1 fs)
      · rename_i m e hu; exact absurd hu (k2 m e)
      · cases ha
  obtain ⟨l1, l2⟩ := h1.spec
  refine ⟨a, .a (by simpa [Value.cells] using l1) (fun u hu => ?_) (fun j u x hj hx => ?_), h2, h3⟩
  · obtain ⟨j, hj⟩ := List.getElem?_of_mem hu
    have hjl := (List.getElem?_eq_some_iff.1 hj).1
    have hx : (Value.cells (.agg cs)).toList[j]? = some (Value.cells (.agg cs)).toList[j] := List.getElem?_eq_getElem (by omega)
    exact (l2 j u _ hj hx).1
  · exact (l2 j u x hj (by simpa [Value.cells] using hx)).2
theorem ro_one {u : V} {cs : List Value} (h : RO W [u] cs) : ∃ c, cs = [c] ∧ Rep W allS u c := by
  match cs, h with
  | [c], h => exact ⟨c, rfl, h.1.2⟩
theorem Opn.arg1 {T base : Nat} {α : Type} {p : α → V} {ok : α → Prop} {sz : α → Nat} {v : Value} {d : DataW H} {ps : List MemPlace} (h : ∀ n, Opn enc P W n T (fun a => [p a]) ok sz) (ha : (match P.underlying T with | some .bool | some (.int _) | some .string | some (.slice _) => true | _ => false) = true) (hv : Value.okWide P W .any base T v) (ht : DataW.Trod enc P W 0 (fun _ => true) true T v d ps) :
    ∃ a, Rep W allS (p a) v ∧ ok a ∧ sz a ≤ Rows.uptoBulk d := by
  obtain ⟨n, hn⟩ := ht
  obtain ⟨a, h1, h2, h3⟩ := (h n).go _ _ hn
  have hc : v.cells = #[v] := by
    split at ha
    · rename_i hu; obtain ⟨b, rfl⟩ := okWide_bool hu hv; rfl
    · rename_i k hu; obtain ⟨b, rfl⟩ := okWide_int hu hv; rfl
    · rename_i hu; obtain ⟨b, rfl⟩ := okWide_string hu hv; rfl
    · rename_i e hu; obtain ⟨x, y, z, rfl⟩ := okWide_slice hu hv; rfl
    · cases ha
  rw [hc] at h1
  obtain ⟨c, hc', hr⟩ := ro_one h1
  simp at hc'
  subst hc'
  exact ⟨a, hr, h2, h3⟩
/-! ### Plain types -/
theorem Opn.u8 {n T : Nat} (hT : P.underlying T = some (.int .u8)) : Opn enc P W n T (fun b : UInt8 => [bK b]) (fun _ => True) (fun _ => 1) :=
  (Opn.int hT).map (fun z => UInt8.ofNat z.toNat) (fun z hz => by
    have h0 : IntKind.u8.min = 0 := rfl
    have h1 : IntKind.u8.max = 255 := rfl
    have e : (UInt8.ofNat z.toNat).toNat = z.toNat := UInt8.toNat_ofNat_of_lt (by show _ < 256; omega)
    have : ((z.toNat : Nat) : Int) = z := by omega
    simp only [bK, e, this]) (fun _ _ => trivial) fun _ _ => Nat.le_refl _
theorem Opn.u64 {n T : Nat} (hT : P.underlying T = some (.int .u64)) : Opn enc P W n T (fun b : UInt64 => [qK b]) (fun _ => True) (fun _ => 1) :=
  (Opn.int hT).map (fun z => UInt64.ofNat z.toNat) (fun z hz => by
    have h0 : IntKind.u64.min = 0 := rfl
    have h1 : IntKind.u64.max = 18446744073709551615 := rfl
    have e : (UInt64.ofNat z.toNat).toNat = z.toNat := UInt64.toNat_ofNat_of_lt (by show _ < 18446744073709551616; omega)
    have : ((z.toNat : Nat) : Int) = z := by omega
    simp only [qK, e, this]) (fun _ _ => trivial) fun _ _ => Nat.le_refl _
theorem Opn.i64 {n T : Nat} (hT : P.underlying T = some (.int .i64)) : Opn enc P W n T (fun z : Int => [.k (.int .i64 z)]) (fun z => -9223372036854775808 ≤ z ∧ z ≤ 9223372036854775807) (fun _ => 1) :=
  (Opn.int hT).map id (fun _ _ => rfl) (fun _ hz => hz) fun _ _ => Nat.le_refl _
theorem sum_map_one {α : Type} (l : List α) : (l.map fun _ => 1).sum = l.length := by induction l with
  | nil => rfl
  | cons a l ih => simp [ih]; omega
theorem flatMap_one {α : Type} (g : α → V) (l : List α) : l.flatMap (fun a => [g a]) = l.map g := by
  induction l with
  | nil => rfl
  | cons a l ih => rw [List.flatMap_cons, List.map_cons, ih]; rfl
/-- Bytes. -/
theorem Opn.bytes {n T e : Nat} (hT : P.underlying T = some (.slice e)) (hE : P.underlying e = some (.int .u8)) (hc : P.cellsOf e = 1) : Opn enc P W n T (fun l : List UInt8 => [.s none (l.map bK)]) (fun _ => True) (fun l => l.length + 1) :=
  (Opn.sl bK hT hc (by decide) (fun _ => rfl) (Opn.u8 hE)).map id (fun _ _ => rfl) (fun _ _ => trivial) fun l _ => by rw [sum_map_one]; exact Nat.le_refl _
theorem Opn.u64s {n T e : Nat} (hT : P.underlying T = some (.slice e)) (hE : P.underlying e = some (.int .u64)) (hc : P.cellsOf e = 1) : Opn enc P W n T (fun l : List UInt64 => [.s none (l.map qK)]) (fun _ => True) (fun l => l.length + 1) :=
  (Opn.sl qK hT hc (by decide) (fun _ => rfl) (Opn.u64 hE)).map id (fun _ _ => rfl) (fun _ _ => trivial) fun l _ => by rw [sum_map_one]; exact Nat.le_refl _
/-- An array of bytes, or of numbers. -/
theorem Opn.arr8 {n T e m : Nat} (hT : P.underlying T = some (.array m e)) (hE : P.underlying e = some (.int .u8)) (hc : P.cellsOf T = m * P.cellsOf e) : Opn enc P W n T (fun l : List UInt8 => l.map bK) (fun l => l.length = m) (fun l => l.length + 1) :=
  (Opn.ar hT hc (Opn.u8 hE)).map id (fun l _ => (flatMap_one bK l).symm) (fun _ h => h.1) fun l _ => by rw [sum_map_one]; exact Nat.le_refl _
theorem Opn.arr64 {n T e m : Nat} (hT : P.underlying T = some (.array m e)) (hE : P.underlying e = some (.int .u64)) (hc : P.cellsOf T = m * P.cellsOf e) : Opn enc P W n T (fun l : List UInt64 => l.map qK) (fun l => l.length = m) (fun l => l.length + 1) :=
  (Opn.ar hT hc (Opn.u64 hE)).map id (fun l _ => (flatMap_one qK l).symm) (fun _ h => h.1) fun l _ => by rw [sum_map_one]; exact Nat.le_refl _
end
end Lf
end Go.Proofs.Ytpchigdcikknmaa

/- What the given statement tells of a word, of a text. -/
namespace Go.Proofs.Ytpchigdcikknmaa
open Go.RowKit Rg Rp Go.WideShapes Go.ChangeShapes Wm Ar
namespace Lf
section
variable {H : Type} {enc : TypeId × Value → H} {W : World}
theorem opnWord (n : Nat) : Opn enc Try.prog W n 35 (fun x : Nat => (limbs x).map uK) (fun x => x < M256) (fun _ => 5) :=
  (Opn.arr64 (m := 4) (e := 33) (by kernel_rfl) (by kernel_rfl) (by kernel_rfl)).map (fun l => numOf (l.map UInt64.toNat)) (fun l h => by
    rw [limbs_num ((List.length_map _).trans h) (fun a ha => by obtain ⟨y, _, rfl⟩ := List.mem_map.1 ha; exact y.toNat_lt), List.map_map]
    rfl) (fun l h => numOf_lt ((List.length_map _).trans h) (fun a ha => by obtain ⟨y, _, rfl⟩ := List.mem_map.1 ha; exact y.toNat_lt)) (fun l h => by omega)
theorem opnStr {P : Program} {T n : Nat} (hT : P.underlying T = some .string) : Opn enc P W n T (fun l : List UInt8 => [sK l]) (fun l => l.length ≤ maxLen) (fun l => l.length + 1) :=
  (Opn.str hT).map (fun s => s.data.toList) (fun s _ => by unfold sK; rw [Array.toArray_toList]) (fun s h => by rw [Array.length_toList]; exact h) (fun s _ => by rw [Array.length_toList]; exact Nat.le_refl _)
end
end Lf
end Go.Proofs.Ytpchigdcikknmaa

/- What the given statement tells of a number. -/
namespace Go.Proofs.Ytpchigdcikknmaa
open Go.RowKit Rg Rp Go.WideShapes Go.ChangeShapes
namespace Lf
section
variable {H : Type} {enc : TypeId × Value → H} {W : World} {P : Program}
theorem opnU8 {T n : Nat} (hT : P.underlying T = some (.int .u8)) : Opn enc P W n T (fun x : Nat => [.k (.int .u8 ((x : Nat) : Int))]) (fun x => x < 256) (fun _ => 1) :=
  (Opn.u8 hT).map (fun b => b.toNat) (fun _ _ => rfl) (fun b _ => b.toNat_lt) fun _ _ => Nat.le_refl _
theorem opnU64 {T n : Nat} (hT : P.underlying T = some (.int .u64)) : Opn enc P W n T (fun x : Nat => [uK x]) (fun x => x < 18446744073709551616) (fun _ => 1) :=
  (Opn.u64 hT).map (fun b => b.toNat) (fun _ _ => rfl) (fun b _ => b.toNat_lt) fun _ _ => Nat.le_refl _
end
end Lf
end Go.Proofs.Ytpchigdcikknmaa

/- What the given statement tells of pages and of filters. -/
namespace Go.Proofs.Ytpchigdcikknmaa
open Go.RowKit Rg Rp Go.WideShapes Go.ChangeShapes Wm Ar
namespace Lf
def Lg.raw (l : Lg) : Prop := l.addr.length = 8 ∧ ∀ t ∈ l.topics, t < M256
def Rc.raw (r : Rc) : Prop := r.used < 18446744073709551616 ∧ r.bloom.length = 32 ∧ ∀ l ∈ r.logs, l.raw
def Pg.raw (p : Pg) : Prop := p.number < 18446744073709551616 ∧ ∀ r ∈ p.recs, r.raw
def Fl.raw (f : Fl) : Prop := (∀ a ∈ f.addrs, a.length = 8) ∧ ∀ t ∈ f.topics, t < M256
def szL (l : Lg) : Nat := l.topics.length + l.data.length + 1
def szR (r : Rc) : Nat := (r.logs.map szL).sum + 1
def szP (p : Pg) : Nat := (p.recs.map szR).sum + 1
def szPs (ps : List Pg) : Nat := (ps.map szP).sum + 1
def szF (f : Fl) : Nat := f.addrs.length + f.topics.length + 1
theorem sum_const {α : Type} (k : Nat) (l : List α) : (l.map fun _ => k).sum = k * l.length := by
  induction l with
  | nil => rfl
  | cons x r ih => rw [List.map_cons, List.sum_cons, ih, List.length_cons, Nat.mul_succ]; omega
theorem sum_mem {α : Type} {f : α → Nat} {l : List α} {x : α} (h : x ∈ l) : f x ≤ (l.map f).sum := by
  induction l with
  | nil => cases h
  | cons y r ih =>
    rw [List.map_cons, List.sum_cons]
    rcases List.mem_cons.1 h with rfl | h
    · omega
    · have := ih h; omega
theorem sum_len {α : Type} {f : α → Nat} (h : ∀ x, 1 ≤ f x) (l : List α) : l.length ≤ (l.map f).sum := by
  induction l with
  | nil => exact Nat.le_refl 0
  | cons y r ih =>
    rw [List.map_cons, List.sum_cons, List.length_cons]
    have := h y
    omega
section
variable {H : Type} {enc : TypeId × Value → H} {W : World}
theorem opnAddr (n : Nat) : Opn enc Try.prog W n 38 (fun l : List UInt8 => l.map bK) (fun l => l.length = 8) (fun l => l.length + 1) :=
  Opn.arr8 (m := 8) (e := 5) (by kernel_rfl) (by kernel_rfl) (by kernel_rfl)
theorem opnHash (n : Nat) : Opn enc Try.prog W n 51 (fun l : List UInt8 => l.map bK) (fun l => l.length = 32) (fun l => l.length + 1) :=
  Opn.arr8 (m := 32) (e := 5) (by kernel_rfl) (by kernel_rfl) (by kernel_rfl)
theorem opnWords (n : Nat) : Opn enc Try.prog W n 24 (fun l : List Nat => [wsV l]) (fun l => ∀ x ∈ l, x < M256) (fun l => (l.map fun _ => 5).sum + 1) :=
  Opn.sl (e := 35) (k := 4) wV (by kernel_rfl) (by kernel_rfl) (by decide) (fun _ => rfl) (opnWord _)
theorem opnAddrs (n : Nat) : Opn enc Try.prog W n 23 (fun l : List (List UInt8) => [asV l]) (fun l => ∀ x ∈ l, x.length = 8) (fun l => (l.map fun x => x.length + 1).sum + 1) :=
  Opn.sl (e := 38) (k := 8) adV (by kernel_rfl) (by kernel_rfl) (by decide) (fun _ => rfl) (opnAddr _)
theorem opnLog (n : Nat) : Opn enc Try.prog W n 41 lgC Lg.raw szL := by
  have h := Opn.st (T := 41) (n := n) (P := Try.prog) (enc := enc) (W := W) (fs := #[⟨"Addr", 38, 0, false, "", "", 0⟩, ⟨"Topics", 24, 8, false, "", "", 8⟩, ⟨"Data", 39, 9, false, "", "", 32⟩]) (by kernel_rfl) (by kernel_rfl)
    (OpnFs.cons (opnAddr _) (OpnFs.cons (opnWords _) (OpnFs.cons (Opn.bytes (e := 5) (by kernel_rfl) (by kernel_rfl) (by kernel_rfl)) OpnFs.nil)))
  refine h.map (fun x => ⟨x.1, x.2.1, x.2.2.1⟩) (fun x _ => ?_) (fun x hx => ?_) (fun x _ => ?_)
  · simp only [lgC, lgS_eq, List.append_nil, List.cons_append, List.nil_append]
  · exact ⟨hx.1, hx.2.1⟩
  · show x.2.1.length + x.2.2.1.length + 1 ≤ _
    have := sum_const 5 x.2.1
    omega
theorem opnLogs (n : Nat) : Opn enc Try.prog W n 52 (fun l : List Lg => [lgsV l]) (fun l => ∀ x ∈ l, x.raw) (fun l => (l.map szL).sum + 1) :=
  Opn.sl (e := 41) (k := 10) lgV (by kernel_rfl) (by kernel_rfl) (by decide) (fun _ => rfl) (opnLog _)
theorem opnRec (n : Nat) : Opn enc Try.prog W n 54 rcC Rc.raw szR := by
  have h := Opn.st (T := 54) (n := n) (P := Try.prog) (enc := enc) (W := W) (fs := #[⟨"Good", 4, 0, false, "", "", 0⟩, ⟨"Used", 33, 1, false, "", "", 8⟩, ⟨"Bloom", 51, 2, false, "", "", 16⟩, ⟨"Logs", 52, 34, false, "", "", 48⟩]) (by kernel_rfl) (by kernel_rfl)
    (OpnFs.cons (Opn.bool (by kernel_rfl)) (OpnFs.cons (opnU64 (by kernel_rfl)) (OpnFs.cons (opnHash _) (OpnFs.cons (opnLogs _) OpnFs.nil))))
  refine h.map (fun x => ⟨x.1, x.2.1, x.2.2.1, x.2.2.2.1⟩) (fun x _ => ?_) (fun x hx => ?_) (fun x _ => ?_)
  · simp only [rcC_eq, List.append_nil, List.cons_append, List.nil_append]
  · exact ⟨hx.2.1, hx.2.2.1, hx.2.2.2.1⟩
  · show (x.2.2.2.1.map szL).sum + 1 ≤ _
    omega
theorem opnRecs (n : Nat) : Opn enc Try.prog W n 47 (fun l : List Rc => [rcsV l]) (fun l => ∀ x ∈ l, x.raw) (fun l => (l.map szR).sum + 1) :=
  Opn.sl (e := 54) (k := 35) rcV (by kernel_rfl) (by kernel_rfl) (by decide) (fun _ => rfl) (opnRec _)
theorem opnPage (n : Nat) : Opn enc Try.prog W n 49 pgC Pg.raw szP := by
  have h := Opn.st (T := 49) (n := n) (P := Try.prog) (enc := enc) (W := W) (fs := #[⟨"Number", 33, 0, false, "", "", 0⟩, ⟨"Receipts", 47, 1, false, "", "", 8⟩]) (by kernel_rfl) (by kernel_rfl)
    (OpnFs.cons (opnU64 (by kernel_rfl)) (OpnFs.cons (opnRecs _) OpnFs.nil))
  refine h.map (fun x => ⟨x.1, x.2.1⟩) (fun x _ => ?_) (fun x hx => ?_) (fun x _ => ?_)
  · simp only [List.append_nil, List.cons_append, List.nil_append]
  · exact ⟨hx.1, hx.2.1⟩
  · show (x.2.1.map szR).sum + 1 ≤ _
    omega
theorem opnPages (n : Nat) : Opn enc Try.prog W n 22 (fun l : List Pg => [pgsV l]) (fun l => ∀ x ∈ l, x.raw) szPs :=
  Opn.sl (e := 49) (k := 2) pgV (by kernel_rfl) (by kernel_rfl) (by decide) (fun _ => rfl) (opnPage _)
theorem opnFilter (n : Nat) : Opn enc Try.prog W n 26 flC Fl.raw szF := by
  have h := Opn.st (T := 26) (n := n) (P := Try.prog) (enc := enc) (W := W) (fs := #[⟨"Addrs", 23, 0, false, "", "", 0⟩, ⟨"Topics", 24, 1, false, "", "", 24⟩]) (by kernel_rfl) (by kernel_rfl)
    (OpnFs.cons (opnAddrs _) (OpnFs.cons (opnWords _) OpnFs.nil))
  refine h.map (fun x => ⟨x.1, x.2.1⟩) (fun x _ => ?_) (fun x hx => ?_) (fun x _ => ?_)
  · simp only [List.append_nil, List.cons_append, List.nil_append]
  · exact ⟨hx.1, hx.2.1⟩
  · show x.1.length + x.2.1.length + 1 ≤ _
    have h1 := sum_const 5 x.2.1
    have h2 := sum_len (f := fun x : List UInt8 => x.length + 1) (fun _ => Nat.le_add_left _ _) x.1
    omega
end
theorem lg_ok {l : Lg} (h : l.raw) {n : Nat} (hs : szL l ≤ n) (hn : n ≤ 1048576) : l.ok := ⟨h.1, h.2, by unfold szL at hs; omega, by unfold szL at hs; omega⟩
theorem rc_ok {r : Rc} (h : r.raw) {n : Nat} (hs : szR r ≤ n) (hn : n ≤ 1048576) : r.ok := by
  unfold szR at hs
  have := sum_len (f := szL) (fun _ => Nat.le_add_left _ _) r.logs
  exact ⟨h.1, h.2.1, fun l hl => lg_ok (h.2.2 l hl) (n := n) (by have := sum_mem (f := szL) hl; omega) hn, by omega⟩
theorem pg_ok {p : Pg} (h : p.raw) {n : Nat} (hs : szP p ≤ n) (hn : n ≤ 1048576) : p.ok := by
  unfold szP at hs
  have := sum_len (f := szR) (fun _ => Nat.le_add_left _ _) p.recs
  exact ⟨h.1, fun r hr => rc_ok (h.2 r hr) (n := n) (by have := sum_mem (f := szR) hr; omega) hn, by omega⟩
theorem recs_tot (n : Nat) (rs : List Rc) : (recsF lkAll n rs).length ≤ (rs.map szR).sum := by
  have key : ∀ m, m ≤ rs.length → (recsF lkAll n (rs.take m)).length ≤ ((rs.take m).map szR).sum := by
    intro m
    induction m with
    | zero => intro _; rw [List.take_zero, recs_nil]; exact Nat.zero_le _
    | succ m ih =>
      intro hm
      have h1 := ih (by omega)
      have h2 := sum_len (f := szL) (fun _ => Nat.le_add_left _ _) (rs.getD m default).logs
      rw [recsF_snoc (by omega), take_snoc (by omega), List.map_append, List.sum_append, List.length_append, List.map_cons, List.map_nil, List.sum_singleton, cond_true]
      have h3 : (recF n m (rs.getD m default).logs).length = (rs.getD m default).logs.length := by unfold recF; rw [List.length_mapIdx]
      rw [h3]
      show _ ≤ _ + (((rs.getD m default).logs.map szL).sum + 1)
      omega
  have := key rs.length (Nat.le_refl _)
  rwa [List.take_length] at this
theorem all_tot : ∀ ps : List Pg, (allF lkAll ps).length ≤ (ps.map szP).sum
  | [] => by rw [all_nil]; exact Nat.zero_le _
  | p :: ps => by
    have h1 := all_tot ps
    have h2 := recs_tot p.number p.recs
    rw [allF_cons, List.length_append, List.map_cons, List.sum_cons]
    show _ ≤ (p.recs.map szR).sum + 1 + _
    omega
theorem pgs_ok {ps : List Pg} (h : ∀ p ∈ ps, p.raw) {n : Nat} (hs : szPs ps ≤ n) (hn : n ≤ 1048576) : PgsOk ps := by
  unfold szPs at hs
  have h1 := sum_len (f := szP) (fun _ => Nat.le_add_left _ _) ps
  have h2 := all_tot ps
  exact ⟨fun p hp => pg_ok (h p hp) (n := n) (by have := sum_mem (f := szP) hp; omega) hn, by omega, by omega⟩
theorem texts_tot (ls : List Lg) : (textsL ls).length ≤ (ls.map szL).sum := by
  unfold textsL
  induction ls with
  | nil => exact Nat.zero_le _
  | cons l r ih =>
    rw [List.flatMap_cons, List.length_append, List.length_cons, List.length_map, List.map_cons, List.sum_cons]
    show _ ≤ l.topics.length + l.data.length + 1 + _
    omega
theorem tx_ok {ps : List Pg} {n : Nat} (hs : szPs ps ≤ n) (hn : n ≤ 1048576) : TxOk ps := by
  intro p hp r hr
  unfold szPs at hs
  have h1 : (p.recs.map szR).sum + 1 ≤ (ps.map szP).sum := sum_mem (f := szP) hp
  have h2 : (r.logs.map szL).sum + 1 ≤ (p.recs.map szR).sum := sum_mem (f := szR) hr
  have h3 := texts_tot r.logs
  omega
theorem fl_ok {f : Fl} (h : f.raw) {n : Nat} (hs : szF f ≤ n) (hn : n ≤ 1048576) : f.ok := by
  unfold szF at hs
  exact ⟨h.1, h.2, by omega, by omega⟩
end Lf
end Go.Proofs.Ytpchigdcikknmaa

/- Sift: who asks for more finds less. -/
namespace Go.Proofs.Ytpchigdcikknmaa
open Go.RowKit Rg Wm Ar
set_option linter.unusedVariables false
set_option maxRecDepth 100000
namespace Lf
theorem found_all {lk : Rc → Bool} {f : Fl} {ps : List Pg} (h : PgsOk ps) : foundL lk f 4611686018427387904 ps = (allF lk ps).filter fun x => lets f x.log := by
  unfold foundL
  have h1 := List.length_filter_le (fun x : Fd => lets f x.log) (allF lk ps)
  have h2 := allF_le lk ps
  have h3 := h.tot
  exact List.take_of_length_le (by show _ ≤ 4611686018427387904; omega)
theorem lets_more {f : Fl} {t : Nat} {l : Lg} : lets ⟨f.addrs, f.topics ++ [t]⟩ l = (lets f l && decide (t ∈ l.topics)) := by
  unfold lets
  simp only [List.all_append, List.all_cons, List.all_nil, Bool.and_true, Bool.and_assoc]
theorem narrow {f : Fl} {t : Nat} {ps : List Pg} (h : PgsOk ps) : foundL lkAll ⟨f.addrs, f.topics ++ [t]⟩ 4611686018427387904 ps = (foundL lkAll f 4611686018427387904 ps).filter fun x => decide (t ∈ x.log.topics) := by
  rw [found_all h, found_all h, List.filter_filter]
  congr 1
  funext x
  rw [lets_more, Bool.and_comm]
namespace Sf
theorem CloneWr (ts : List Nat) (hn : ts.length < 1073741824) (k : Nat) : LM Try.prog 12 [wsV ts] [] fun o m => o = .ret (.s (some k) (ts.map wV)) ∧ m = [(k, .r 35 4 ts.length)] := by
  have hl : (ts.map wV).length = ts.length := List.length_map _
  have hce : ∀ e ∈ ts.map wV, e.cells.length = 4 := fun e he => by
    obtain ⟨t, _, rfl⟩ := List.mem_map.1 he
    show ((limbs t).map uK).length = 4
    rw [List.length_map, limbs_len]
  refine LM.row1 (k0 := 5) (fun _ => rfl) ?_ k
  refine LFx.mk' tt Try.func12 rfl rfl rfl (by kernel_rfl) rfl rfl fun F => ?_
  refine LC.seq (LC.region (LS.pp rfl rfl (Does.assign rfl rfl) rfl (LS.nil ?_)))
  refine LC.seq (LC.seq (LC.region (LS.pp rfl rfl (Does.move rfl rfl) rfl (LS.eqNil tt rfl rfl rfl rfl rfl rfl rfl (fun he => LS.nil ?_) (LS.nil ?_)))))
  · have hl0 : ts = [] := List.map_eq_nil_iff.1 he
    subst hl0
    refine LC.condT rfl (LC.seq (LC.region (LS.pp rfl rfl (Does.assign rfl rfl) rfl (LS.nil ?_))))
    refine LC.nilrow 2 5 35 4 rfl rfl rfl ?_
    exact wk trueW trueW trueW
  · refine LC.condF rfl ?_
    exact wk trueW trueW trueW
set_option maxHeartbeats 8000000 in
theorem SiftNarrow (ps : List Pg) (f : Fl) (t : Nat) (kf : f.ok) (ht : t < M256) (hft : f.topics.length < 1999999) (h : PgsOk ps) : LF Try.prog 4 [pgsV ps, flV f, wV t] (fun _ => .k (.bool true)) none := by
  have hrf := siftRefs
  have hlw := limbs_len t
  have hce : ∀ e ∈ f.topics.map wV, e.cells.length = 4 := fun e he => by
    obtain ⟨t, _, rfl⟩ := List.mem_map.1 he
    show ((limbs t).map uK).length = 4
    rw [List.length_map, limbs_len]
  have kg : (⟨f.addrs, f.topics ++ [t]⟩ : Fl).ok := ⟨kf.addrs, fun x hx => by
    rcases List.mem_append.1 hx with hx | hx
    · exact kf.tops x hx
    · rw [List.mem_singleton.1 hx]; exact ht, kf.al, by show (f.topics ++ [t]).length < _; rw [List.length_append, List.length_singleton]; omega⟩
  have c1 := alive20
  have c2 := CloneWr f.topics (by omega)
  have c3 := All_ ps f 4611686018427387904 kf (by decide) h
  have c4 : LF Try.prog 11 [pgsV ps, .a [asV f.addrs, .s none ((f.topics ++ [t]).map wV)], .k (.int .i64 4611686018427387904)] (fun _ => fdsV ((foundL lkAll f 4611686018427387904 ps).filter fun x => decide (t ∈ x.log.topics))) none := by
    rw [← narrow h]
    exact All_ ps ⟨f.addrs, f.topics ++ [t]⟩ 4611686018427387904 kg (by decide) h
  have hR := found_ok (lk := lkAll) (f := f) (z := 4611686018427387904) h
  have hRl := found_len (lk := lkAll) (f := f) (z := 4611686018427387904) h
  generalize foundL lkAll f 4611686018427387904 ps = R at *
  have hFl := List.length_filter_le (fun x : Fd => decide (t ∈ x.log.topics)) R
  have hbr := fdV_bare
  refine LFx.mk' tt Try.func4 rfl rfl rfl (by kernel_rfl) rfl rfl fun F => ?_
  refine wk ?_ trueW trueW
  refine LC.nilrow 8 60 43 13 rfl rfl rfl ?_
  refine LC.loop2 (fun i S => [(0, pgsV ps), (5, .p 5 0), (7, .p 7 0), (8, .s (some 60) (S.map fdV)), (24, fdsV R), (25, .k (.int .i64 ((R.length : Nat) : Int))), (26, .k (.int .i64 ((i : Nat) : Int)))]) (fun i S => [(5, .b ((limbs t).map uK)), (7, .b [asV f.addrs, .s (some 17) ((f.topics ++ [t]).map wV)]), (17, .r 35 4 (f.topics ++ [t]).length), (60, .r 43 13 S.length)]) (fun i S => i ≤ R.length ∧ S = (R.take i).filter (fun x => decide (t ∈ x.log.topics))) ((R.length - ·)) (0) ([]) ⟨by omega, by rw [List.take_zero]; rfl⟩ ⟨rfl, rfl, rfl, rfl, rfl, rfl, rfl, trivial⟩ ⟨rfl, rfl, rfl, rfl, trivial⟩ rfl rfW rfW ?_
  rintro i S ⟨hi, hS⟩
  have hSl : S.length ≤ i := by
    have h1 := List.length_filter_le (fun x : Fd => decide (t ∈ x.log.topics)) (R.take i)
    rw [← hS, List.length_take] at h1
    omega
  by_cases h2 : i < R.length
  · have hx := hR _ (getD_mem' (d := default) h2)
    have hxa := hx.log.addr
    have hll : (fdC (R.getD i default)).length = 13 := fdS_len hxa
    have ld1 := @fd_t
    have hcl : ∀ e ∈ S.map fdV, e.cells.length = 13 := fun e he => by
      obtain ⟨d, hd, rfl⟩ := List.mem_map.1 he
      rw [hS] at hd
      exact fdS_len (hR d (List.mem_of_mem_take (List.mem_filter.1 hd).1)).log.addr
    have c5 := ContainsW (R.getD i default).log.topics t (by have := hx.log.tl; omega) hx.log.tops ht
    by_cases hm : t ∈ (R.getD i default).log.topics
    · have hok : i + 1 ≤ R.length ∧ S ++ [R.getD i default] = (R.take (i + 1)).filter (fun x => decide (t ∈ x.log.topics)) := ⟨h2, by rw [take_snoc h2, List.filter_append, ← hS, List.filter_cons_of_pos (by simpa using hm), List.filter_nil]⟩
      rw [decide_eq_true hm] at c5
      clear hS hR
      exact wk trueW trueW trueW
    · have hok : i + 1 ≤ R.length ∧ S = (R.take (i + 1)).filter (fun x => decide (t ∈ x.log.topics)) := ⟨h2, by rw [take_snoc h2, List.filter_append, ← hS, List.filter_cons_of_neg (by simpa using hm), List.filter_nil, List.append_nil]⟩
      rw [decide_eq_false hm] at c5
      clear hS hR
      exact wk trueW trueW trueW
  · obtain rfl : i = R.length := by omega
    rw [List.take_length] at hS
    have hSo : ∀ d ∈ S, d.ok := fun d hd => by rw [hS] at hd; exact hR d (List.mem_filter.1 hd).1
    rw [← hS] at c4
    have c5 := SameF S S hSo hSo (by omega) (by omega)
    rw [decide_eq_true rfl] at c5
    clear hS hR
    exact wk trueW trueW trueW
end Sf
end Lf
end Go.Proofs.Ytpchigdcikknmaa

/- Sift: pages and finds joined; searching in parts. -/
namespace Go.Proofs.Ytpchigdcikknmaa
open Go.RowKit Rg Wm Ar
set_option linter.unusedVariables false
set_option maxRecDepth 100000
namespace Lf
theorem sizes_p {l : List Pg} (_ : ∀ v ∈ l, v.ok) : ∀ e ∈ l.map pgV, e.cells.length = 2 := fun e he => by
  obtain ⟨v, _, rfl⟩ := List.mem_map.1 he
  rfl
theorem sizes_f {l : List Fd} (h : ∀ v ∈ l, v.ok) : ∀ e ∈ l.map fdV, e.cells.length = 13 := fun e he => by
  obtain ⟨v, hv, rfl⟩ := List.mem_map.1 he
  exact fdS_len (h v hv).log.addr
theorem pgV_bare (p : Pg) : (pgV p).bare = some (pgV p) := rfl
namespace Sf
set_option maxHeartbeats 1000000 in
theorem GrowP (n : Nat) (hn : n < 1073741824) (k : Nat) : LM Try.prog 29 [.nil, .k (.int .i64 (n : Int))] [] fun o m => o = .ret (.s (some k) []) ∧ m = [(k, .r 49 2 0)] := by
  rcases Nat.eq_zero_or_pos n with h0 | h0
  · subst h0
    refine LM.nilrow _ _ k rfl ?_
    refine LFx.mk' tt Try.func29 rfl rfl rfl (by kernel_rfl) rfl rfl fun F => ?_
    refine wk ?_ trueW trueW
    refine DR.pp rfl rfl (Does.capNil tt rfl rfl rfl rfl rfl) rfl ?_
    exact wk trueW trueW trueW
  · refine LM.row1 (k0 := 22) (fun _ => rfl) ?_ k
    refine LFx.mk' tt Try.func29 rfl rfl rfl (by kernel_rfl) rfl rfl fun F => ?_
    refine wk ?_ trueW trueW
    refine DR.pp rfl rfl (Does.capNil tt rfl rfl rfl rfl rfl) rfl ?_
    refine wk ?_ trueW trueW
    refine DR.pp rfl rfl (Does.capNil tt rfl rfl rfl rfl rfl) rfl ?_
    refine DR.pp rfl rfl (Does.cutNil tt rfl rfl rfl rfl rfl (.some rfl rfl)) rfl ?_
    refine wk ?_ trueW trueW
    refine DR.nn rfl rfl (Does.appMake (n := n) tt rfl rfl rfl rfl rfl rfl rfl rfl rfl rfl h0 (by omega) (by show n * 32 ≤ _; omega)) rfl rfl ?_
    refine wk ?_ trueW trueW
    refine DR.ww rfl rfl (Does.cutW0 tt rfl rfl rfl rfl rfl (.some rfl rfl)) rfl rfl ?_
    exact wk trueW trueW trueW
set_option maxHeartbeats 1000000 in
theorem ConcatP (ls : List (List Pg)) (hv : ∀ l ∈ ls, ∀ v ∈ l, v.ok) (h1 : ls.length < 1073741824) (h2 : ls.flatten.length < 1073741824) (k : Nat) : LM Try.prog 16 [.s none (ls.map pgsV)] [] fun o m => o = .ret (.s (some k) (ls.flatten.map pgV)) ∧ m = [(k, .r 49 2 ls.flatten.length)] := by
  refine LM.row1 (k0 := 24) (fun ρ => by simp [V.ren]) ?_ k
  have c1 := GrowP ls.flatten.length h2 24
  have hbr := pgV_bare
  refine LFx.mk' tt Try.func16 rfl rfl rfl (by kernel_rfl) rfl rfl fun F => ?_
  refine wk ?_ trueW trueW
  refine LC.loopN (fun i => [(0, .s none (ls.map pgsV)), (2, .nil), (3, .k (.int .i64 (((ls.take i).flatten.length : Nat) : Int))), (9, .s none (ls.map pgsV)), (10, .k (.int .i64 ((ls.length : Nat) : Int))), (11, .k (.int .i64 ((i : Nat) : Int)))]) (fun i => []) (fun i => i ≤ ls.length) ((ls.length - ·)) (0) (by omega) ⟨rfl, rfl, rfl, rfl, rfl, rfl, trivial⟩ trivial rfl rfW rfW ?_
  intro i hi
  have q1 := flat_le (ls := ls) (i := i)
  rcases Nat.lt_or_ge i ls.length with h3 | h3
  · have hok : i + 1 ≤ ls.length := h3
    have q2 := flat_takeL h3
    have q3 := flat_le (ls := ls) (i := i + 1)
    refine wk ?_ trueW trueW
    rw [← q2]
    exact wk trueW trueW trueW
  · obtain rfl : i = ls.length := by omega
    rw [List.take_length]
    refine wk ?_ trueW trueW
    refine LC.loopN (fun j => [(2, .nil), (6, .s (some 24) ((ls.take j).flatten.map pgV)), (25, .s none (ls.map pgsV)), (26, .k (.int .i64 ((ls.length : Nat) : Int))), (27, .k (.int .i64 ((j : Nat) : Int)))]) (fun j => [(24, .r 49 2 (ls.take j).flatten.length)]) (fun j => j ≤ ls.length) ((ls.length - ·)) (0) (by omega) ⟨rfl, rfl, rfl, rfl, rfl, trivial⟩ ⟨rfl, trivial⟩ rfl rfW rfW ?_
    intro j hj
    have q1 := flat_le (ls := ls) (i := j)
    have q0 : ((ls.take j).flatten.map pgV).length = (ls.take j).flatten.length := List.length_map _
    rcases Nat.lt_or_ge j ls.length with h4 | h4
    · have hok : j + 1 ≤ ls.length := h4
      have q2 := flat_takeL h4
      have q4 := flat_take h4
      have q3 := flat_le (ls := ls) (i := j + 1)
      have z1 := sizes_p (l := (ls.take j).flatten) fun v hv' => by
        obtain ⟨l, hl, hv''⟩ := List.mem_flatten.1 hv'
        exact hv l (List.mem_of_mem_take hl) v hv''
      have z2 := sizes_p (l := ls.getD j default) (hv _ (getD_mem' h4))
      refine wk ?_ trueW trueW
      rw [← q4]
      exact wk trueW trueW trueW
    · obtain rfl : j = ls.length := by omega
      rw [List.take_length]
      exact wk trueW trueW trueW
set_option maxHeartbeats 1000000 in
theorem GrowF (n : Nat) (hn : n < 1073741824) (k : Nat) : LM Try.prog 30 [.nil, .k (.int .i64 (n : Int))] [] fun o m => o = .ret (.s (some k) []) ∧ m = [(k, .r 43 13 0)] := by
  rcases Nat.eq_zero_or_pos n with h0 | h0
  · subst h0
    refine LM.nilrow _ _ k rfl ?_
    refine LFx.mk' tt Try.func30 rfl rfl rfl (by kernel_rfl) rfl rfl fun F => ?_
    refine wk ?_ trueW trueW
    refine DR.pp rfl rfl (Does.capNil tt rfl rfl rfl rfl rfl) rfl ?_
    exact wk trueW trueW trueW
  · refine LM.row1 (k0 := 22) (fun _ => rfl) ?_ k
    refine LFx.mk' tt Try.func30 rfl rfl rfl (by kernel_rfl) rfl rfl fun F => ?_
    refine wk ?_ trueW trueW
    refine DR.pp rfl rfl (Does.capNil tt rfl rfl rfl rfl rfl) rfl ?_
    refine wk ?_ trueW trueW
    refine DR.pp rfl rfl (Does.capNil tt rfl rfl rfl rfl rfl) rfl ?_
    refine DR.pp rfl rfl (Does.cutNil tt rfl rfl rfl rfl rfl (.some rfl rfl)) rfl ?_
    refine wk ?_ trueW trueW
    refine DR.nn rfl rfl (Does.appMake (n := n) tt rfl rfl rfl rfl rfl rfl rfl rfl rfl rfl h0 (by omega) (by show n * 80 ≤ _; omega)) rfl rfl ?_
    refine wk ?_ trueW trueW
    refine DR.ww rfl rfl (Does.cutW0 tt rfl rfl rfl rfl rfl (.some rfl rfl)) rfl rfl ?_
    exact wk trueW trueW trueW
set_option maxHeartbeats 1000000 in
theorem ConcatF (ls : List (List Fd)) (hv : ∀ l ∈ ls, ∀ v ∈ l, v.ok) (h1 : ls.length < 1073741824) (h2 : ls.flatten.length < 1073741824) (k : Nat) : LM Try.prog 17 [.s none (ls.map fdsV)] [] fun o m => o = .ret (.s (some k) (ls.flatten.map fdV)) ∧ m = [(k, .r 43 13 ls.flatten.length)] := by
  refine LM.row1 (k0 := 24) (fun ρ => by simp [V.ren]) ?_ k
  have c1 := GrowF ls.flatten.length h2 24
  have hbr := fdV_bare
  refine LFx.mk' tt Try.func17 rfl rfl rfl (by kernel_rfl) rfl rfl fun F => ?_
  refine wk ?_ trueW trueW
  refine LC.loopN (fun i => [(0, .s none (ls.map fdsV)), (2, .nil), (3, .k (.int .i64 (((ls.take i).flatten.length : Nat) : Int))), (9, .s none (ls.map fdsV)), (10, .k (.int .i64 ((ls.length : Nat) : Int))), (11, .k (.int .i64 ((i : Nat) : Int)))]) (fun i => []) (fun i => i ≤ ls.length) ((ls.length - ·)) (0) (by omega) ⟨rfl, rfl, rfl, rfl, rfl, rfl, trivial⟩ trivial rfl rfW rfW ?_
  intro i hi
  have q1 := flat_le (ls := ls) (i := i)
  rcases Nat.lt_or_ge i ls.length with h3 | h3
  · have hok : i + 1 ≤ ls.length := h3
    have q2 := flat_takeL h3
    have q3 := flat_le (ls := ls) (i := i + 1)
    refine wk ?_ trueW trueW
    rw [← q2]
    exact wk trueW trueW trueW
  · obtain rfl : i = ls.length := by omega
    rw [List.take_length]
    refine wk ?_ trueW trueW
    refine LC.loopN (fun j => [(2, .nil), (6, .s (some 24) ((ls.take j).flatten.map fdV)), (25, .s none (ls.map fdsV)), (26, .k (.int .i64 ((ls.length : Nat) : Int))), (27, .k (.int .i64 ((j : Nat) : Int)))]) (fun j => [(24, .r 43 13 (ls.take j).flatten.length)]) (fun j => j ≤ ls.length) ((ls.length - ·)) (0) (by omega) ⟨rfl, rfl, rfl, rfl, rfl, trivial⟩ ⟨rfl, trivial⟩ rfl rfW rfW ?_
    intro j hj
    have q1 := flat_le (ls := ls) (i := j)
    have q0 : ((ls.take j).flatten.map fdV).length = (ls.take j).flatten.length := List.length_map _
    rcases Nat.lt_or_ge j ls.length with h4 | h4
    · have hok : j + 1 ≤ ls.length := h4
      have q2 := flat_takeL h4
      have q4 := flat_take h4
      have q3 := flat_le (ls := ls) (i := j + 1)
      have z1 := sizes_f (l := (ls.take j).flatten) fun v hv' => by
        obtain ⟨l, hl, hv''⟩ := List.mem_flatten.1 hv'
        exact hv l (List.mem_of_mem_take hl) v hv''
      have z2 := sizes_f (l := ls.getD j default) (hv _ (getD_mem' h4))
      refine wk ?_ trueW trueW
      rw [← q4]
      exact wk trueW trueW trueW
    · obtain rfl : j = ls.length := by omega
      rw [List.take_length]
      exact wk trueW trueW trueW
end Sf
end Lf
end Go.Proofs.Ytpchigdcikknmaa

/- Sift: searching in parts. -/
namespace Go.Proofs.Ytpchigdcikknmaa
open Go.RowKit Rg Wm Ar
set_option linter.unusedVariables false
set_option maxRecDepth 100000
namespace Lf
theorem szPs_app (a b : List Pg) : szPs (a ++ b) ≤ szPs a + szPs b := by
  unfold szPs
  rw [List.map_append, List.sum_append]
  omega
theorem parts_both {f : Fl} {a b : List Pg} (ha : PgsOk a) (hb : PgsOk b) (h : PgsOk (a ++ b)) : foundL lkAll f 4611686018427387904 (a ++ b) = foundL lkAll f 4611686018427387904 a ++ foundL lkAll f 4611686018427387904 b := by
  rw [found_all ha, found_all hb, found_all h, allF_append, List.filter_append]
theorem parts_first {f : Fl} {m : Nat} {ps : List Pg} (h : PgsOk ps) : foundL lkAll f (m : Int) ps = (foundL lkAll f 4611686018427387904 ps).take m := by
  rw [found_all h]
  unfold foundL
  rw [Int.toNat_natCast]
namespace Sf
set_option maxHeartbeats 8000000 in
theorem SiftParts (a b : List Pg) (f : Fl) (z : Int) (kf : f.ok) (hz : -9223372036854775808 ≤ z ∧ z ≤ 9223372036854775807) (ha : PgsOk a) (hb : PgsOk b) (h : PgsOk (a ++ b)) : LF Try.prog 6 [pgsV a, pgsV b, flV f, .k (.int .i64 z)] (fun _ => .k (.bool true)) none := by
  have hrf := siftRefs
  have c1 := alive20
  by_cases hz0 : z < 0
  · refine LFx.mk' tt Try.func6 rfl rfl rfl (by kernel_rfl) rfl rfl fun F => ?_
    exact wk trueW trueW trueW
  · by_cases hz1 : 1073741824 < z
    · refine LFx.mk' tt Try.func6 rfl rfl rfl (by kernel_rfl) rfl rfl fun F => ?_
      exact wk trueW trueW trueW
    · obtain ⟨m, rfl⟩ := Int.eq_ofNat_of_zero_le (by omega : 0 ≤ z)
      have hm : m ≤ 1073741824 := by omega
      have hlen := h.len
      have hap : (a ++ b).length < 1073741824 := by omega
      have c2 := All_ a f 4611686018427387904 kf (by decide) ha
      have c3 := All_ b f 4611686018427387904 kf (by decide) hb
      have c4 := All_ (a ++ b) f 4611686018427387904 kf (by decide) h
      have c5 := All_ (a ++ b) f (m : Int) kf (by omega) h
      have c6 : ∀ k, LM Try.prog 16 [.s none [pgsV a, pgsV b]] [] fun o q => o = .ret (.s (some k) ((a ++ b).map pgV)) ∧ q = [(k, .r 49 2 (a ++ b).length)] := fun k => by
        have e : [a, b].flatten = a ++ b := by simp
        have := ConcatP [a, b] (fun l hl v hv => by
          simp only [List.mem_cons, List.not_mem_nil, or_false] at hl
          rcases hl with rfl | rfl
          · exact ha.pgs v hv
          · exact hb.pgs v hv) (by show 2 < _; omega) (by rw [e]; exact hap) k
        rw [e] at this
        exact this
      have o1 := found_ok (lk := lkAll) (f := f) (z := 4611686018427387904) ha
      have o2 := found_ok (lk := lkAll) (f := f) (z := 4611686018427387904) hb
      have o3 := found_ok (lk := lkAll) (f := f) (z := 4611686018427387904) h
      have l1 := found_len (lk := lkAll) (f := f) (z := 4611686018427387904) ha
      have l2 := found_len (lk := lkAll) (f := f) (z := 4611686018427387904) hb
      have l3 := found_len (lk := lkAll) (f := f) (z := 4611686018427387904) h
      rw [parts_first h] at c5
      rw [parts_both ha hb h] at c4 c5 o3 l3
      generalize foundL lkAll f 4611686018427387904 a = X at *
      generalize foundL lkAll f 4611686018427387904 b = Y at *
      have c7 : ∀ k, LM Try.prog 17 [.s none [fdsV X, fdsV Y]] [] fun o q => o = .ret (.s (some k) ((X ++ Y).map fdV)) ∧ q = [(k, .r 43 13 (X ++ Y).length)] := fun k => by
        have e : [X, Y].flatten = X ++ Y := by simp
        have := ConcatF [X, Y] (fun l hl v hv => by
          simp only [List.mem_cons, List.not_mem_nil, or_false] at hl
          rcases hl with rfl | rfl
          · exact o1 v hv
          · exact o2 v hv) (by show 2 < _; omega) (by rw [e]; omega) k
        rw [e] at this
        exact this
      have c8 := SameF (X ++ Y) (X ++ Y) o3 o3 l3 l3
      rw [decide_eq_true rfl] at c8
      have o4 : ∀ d ∈ (X ++ Y).take m, d.ok := fun d hd => o3 d (List.mem_of_mem_take hd)
      have l4 : ((X ++ Y).take m).length < 2000000 := by rw [List.length_take]; omega
      have c9 := SameF ((X ++ Y).take m) ((X ++ Y).take m) o4 o4 l4 l4
      rw [decide_eq_true rfl] at c9
      have hce := sizes_f o3
      clear o1 o2 o3 o4 ha hb h
      generalize X ++ Y = Z at *
      generalize a ++ b = ab at *
      rcases Nat.lt_or_ge Z.length m with hmn | hmn
      · have hmin : (if ((Z.length : Nat) : Int) < ((m : Nat) : Int) then ((Z.length : Nat) : Int) else ((m : Nat) : Int)) = ((Z.length : Nat) : Int) := if_pos (by omega)
        rw [show Z.take m = Z.take Z.length from by rw [List.take_of_length_le (by omega), List.take_length]] at c5 c9
        refine LFx.mk' tt Try.func6 rfl rfl rfl (by kernel_rfl) rfl rfl fun F => ?_
        exact wk trueW trueW trueW
      · have hmin : (if ((Z.length : Nat) : Int) < ((m : Nat) : Int) then ((Z.length : Nat) : Int) else ((m : Nat) : Int)) = ((m : Nat) : Int) := if_neg (by omega)
        refine LFx.mk' tt Try.func6 rfl rfl rfl (by kernel_rfl) rfl rfl fun F => ?_
        exact wk trueW trueW trueW
end Sf
end Lf
end Go.Proofs.Ytpchigdcikknmaa

/- Sift: Through. -/
namespace Go.Proofs.Ytpchigdcikknmaa
open Go.RowKit Rg Wm Ar
set_option linter.unusedVariables false
set_option maxRecDepth 100000
namespace Lf
theorem any_snoc {α : Type} [Inhabited α] {l : List α} {i : Nat} (p : α → Bool) (h : i < l.length) : (l.take (i + 1)).any p = ((l.take i).any p || p (l.getD i default)) := by
  rw [take_snoc h, List.any_append, List.any_cons, List.any_nil, Bool.or_false]
theorem all_snoc {α : Type} [Inhabited α] {l : List α} {i : Nat} (p : α → Bool) (h : i < l.length) : (l.take (i + 1)).all p = ((l.take i).all p && p (l.getD i default)) := by
  rw [take_snoc h, List.all_append, List.all_cons, List.all_nil, Bool.and_true]
theorem any_addr (x : List UInt8) (l : List (List UInt8)) : decide (x ∈ l) = l.any fun y => decide (y = x) := by
  rw [← Bool.coe_iff_coe]
  simp only [decide_eq_true_eq, List.any_eq_true]
  exact ⟨fun h => ⟨_, h, rfl⟩, fun ⟨y, h, e⟩ => e ▸ h⟩
theorem any_top (x : Nat) (l : List Nat) : decide (x ∈ l) = l.any fun y => decide (x = y) := by
  rw [← Bool.coe_iff_coe]
  simp only [decide_eq_true_eq, List.any_eq_true]
  exact ⟨fun h => ⟨_, h, rfl⟩, fun ⟨y, h, e⟩ => e ▸ h⟩
namespace Sf
set_option maxHeartbeats 8000000 in
theorem Through_ (f : Fl) (l : Lg) (kf : f.ok) (kl : l.ok) : LF Try.prog 15 [flV f, lgV l] (fun _ => .k (.bool (lets f l))) none := by
  have hrf := siftRefs
  have hal := kf.al
  have htl := kf.tl
  have ka := kl.addr
  have ktl := kl.tl
  have ld1 := @lg_a
  have ld2 := @lg_t
  have hll : (lgC l).length = 10 := lgS_len ka
  have hem : decide (f.addrs = []) = decide (f.addrs.length = 0) := by
    rw [decide_eq_decide]
    exact ⟨fun e => by rw [e]; rfl, List.eq_nil_of_length_eq_zero⟩
  unfold lets
  have e2 : (f.topics.all fun t => decide (t ∈ l.topics)) = f.topics.all fun t => l.topics.any fun u => decide (t = u) := by
    congr 1
    funext t
    exact any_top t l.topics
  rw [any_addr, hem, e2]
  refine LFx.mk' tt Try.func15 rfl rfl rfl (by kernel_rfl) rfl rfl fun F => ?_
  have h0 : ∀ b : Bool, b = decide (f.addrs.length = 0) → True := fun _ _ => trivial
  clear h0
  generalize hB0 : decide (f.addrs.length = 0) = B0
  cases B0 with
  | true =>
    have h0 : f.addrs.length = 0 := of_decide_eq_true hB0
    rw [Bool.true_or, Bool.true_and]
    refine wk ?_ trueW trueW
    refine LC.loop2 (fun i b => [(2, .p 2 0), (3, .p 3 0), (5, .k (.bool b)), (18, asV f.addrs), (19, .k (.int .i64 ((f.addrs.length : Nat) : Int))), (20, .k (.int .i64 ((i : Nat) : Int)))]) (fun i b => [(2, .b (flC f)), (3, .b (lgC l))]) (fun i b => i ≤ f.addrs.length ∧ b = true) ((f.addrs.length - ·)) (0) (true) ⟨by omega, rfl⟩ ⟨rfl, rfl, rfl, rfl, rfl, rfl, trivial⟩ ⟨rfl, rfl, trivial⟩ rfl rfW rfW ?_
    rintro i b ⟨hi, rfl⟩
    refine wk ?_ trueW trueW
    refine LC.loop2 (fun i b2 => [(2, .p 2 0), (3, .p 3 0), (5, .k (.bool b2)), (33, wsV f.topics), (34, .k (.int .i64 ((f.topics.length : Nat) : Int))), (35, .k (.int .i64 ((i : Nat) : Int)))]) (fun i b2 => [(2, .b (flC f)), (3, .b (lgC l))]) (fun i b2 => i ≤ f.topics.length ∧ b2 = ((f.topics.take i).all fun t => l.topics.any fun u => decide (t = u))) ((f.topics.length - ·)) (0) (true) ⟨by omega, by rw [List.take_zero, List.all_nil]⟩ ⟨rfl, rfl, rfl, rfl, rfl, rfl, trivial⟩ ⟨rfl, rfl, trivial⟩ rfl rfW rfW ?_
    rintro i b2 ⟨hi, hb2⟩
    rcases Nat.lt_or_ge i f.topics.length with h | h
    · have hft := kf.tops _ (getD_mem' (d := default) h)
      have hlw := limbs_len (f.topics.getD i default)
      have hs2 := all_snoc (l := f.topics) (i := i) (fun t => l.topics.any fun u => decide (t = u)) h
      refine wk ?_ trueW trueW
      refine LC.loop2 (fun j c => [(2, .p 2 0), (3, .p 3 0), (5, .k (.bool b2)), (9, .p 9 0), (10, .k (.bool c)), (33, wsV f.topics), (34, .k (.int .i64 ((f.topics.length : Nat) : Int))), (35, .k (.int .i64 ((i : Nat) : Int))), (40, wsV l.topics), (41, .k (.int .i64 ((l.topics.length : Nat) : Int))), (42, .k (.int .i64 ((j : Nat) : Int)))]) (fun j c => [(2, .b (flC f)), (3, .b (lgC l)), (9, .b ((limbs (f.topics.getD i default)).map uK))]) (fun j c => j ≤ l.topics.length ∧ c = (l.topics.take j).any fun u => decide (f.topics.getD i default = u)) ((l.topics.length - ·)) (0) (false) ⟨by omega, by rw [List.take_zero, List.any_nil]⟩ ⟨rfl, rfl, rfl, rfl, rfl, rfl, rfl, rfl, rfl, rfl, rfl, trivial⟩ ⟨rfl, rfl, rfl, trivial⟩ rfl rfW rfW ?_
      rintro j c ⟨hj, hc⟩
      rcases Nat.lt_or_ge j l.topics.length with h2 | h2
      · have hlt := kl.tops _ (getD_mem' (d := default) h2)
        have hlw2 := limbs_len (l.topics.getD j default)
        have hs3 := any_snoc (l := l.topics) (i := j) (fun u => decide (f.topics.getD i default = u)) h2
        rw [← hc] at hs3
        clear hs2 hb2
        cases c with
        | true =>
          have hok : j + 1 ≤ l.topics.length ∧ true = (l.topics.take (j + 1)).any fun u => decide (f.topics.getD i default = u) := ⟨h2, by rw [hs3]; rfl⟩
          clear hc hs3
          exact wk trueW trueW trueW
        | false =>
          by_cases hq : f.topics.getD i default = l.topics.getD j default
          · have hok : j + 1 ≤ l.topics.length ∧ true = (l.topics.take (j + 1)).any fun u => decide (f.topics.getD i default = u) := ⟨h2, by rw [hs3]; simp only [Bool.false_or]; exact (decide_eq_true hq).symm⟩
            have hq2 : limbs (f.topics.getD i default) = limbs (l.topics.getD j default) := by rw [hq]
            clear hc hs3 hq
            exact wk trueW trueW trueW
          · have hok : j + 1 ≤ l.topics.length ∧ false = (l.topics.take (j + 1)).any fun u => decide (f.topics.getD i default = u) := ⟨h2, by rw [hs3]; simp only [Bool.false_or]; exact (decide_eq_false hq).symm⟩
            have hq2 : ¬ limbs (f.topics.getD i default) = limbs (l.topics.getD j default) := fun e => hq (limbs_inj' hft hlt e)
            clear hc hs3 hq
            exact wk trueW trueW trueW
      · obtain rfl : j = l.topics.length := by omega
        rw [List.take_length] at hc
        have hok : i + 1 ≤ f.topics.length ∧ (b2 && c) = ((f.topics.take (i + 1)).all fun t => l.topics.any fun u => decide (t = u)) := ⟨h, by rw [hs2, hb2, hc]⟩
        clear hc hs2 hb2
        cases b2 <;> cases c
        · exact wk trueW trueW trueW
        · exact wk trueW trueW trueW
        · exact wk trueW trueW trueW
        · exact wk trueW trueW trueW
    · obtain rfl : i = f.topics.length := by omega
      rw [List.take_length] at hb2
      rw [← hb2]
      clear hb2
      exact wk trueW trueW trueW
  | false =>
    have h0 : ¬ f.addrs.length = 0 := of_decide_eq_false hB0
    rw [Bool.false_or]
    refine wk ?_ trueW trueW
    refine LC.loop2 (fun i b => [(2, .p 2 0), (3, .p 3 0), (5, .k (.bool b)), (18, asV f.addrs), (19, .k (.int .i64 ((f.addrs.length : Nat) : Int))), (20, .k (.int .i64 ((i : Nat) : Int)))]) (fun i b => [(2, .b (flC f)), (3, .b (lgC l))]) (fun i b => i ≤ f.addrs.length ∧ b = (f.addrs.take i).any fun y => decide (y = l.addr)) ((f.addrs.length - ·)) (0) (false) ⟨by omega, by rw [List.take_zero, List.any_nil]⟩ ⟨rfl, rfl, rfl, rfl, rfl, rfl, trivial⟩ ⟨rfl, rfl, trivial⟩ rfl rfW rfW ?_
    rintro i b ⟨hi, hb⟩
    rcases Nat.lt_or_ge i f.addrs.length with h | h
    · have hal2 := kf.addrs _ (getD_mem' (d := default) h)
      have hs := any_snoc (l := f.addrs) (i := i) (fun y => decide (y = l.addr)) h
      rw [← hb] at hs
      cases b with
      | true =>
        have hok : i + 1 ≤ f.addrs.length ∧ true = (f.addrs.take (i + 1)).any fun y => decide (y = l.addr) := ⟨h, by rw [hs]; rfl⟩
        clear hb hs
        exact wk trueW trueW trueW
      | false =>
        by_cases hq : f.addrs.getD i default = l.addr
        · have hok : i + 1 ≤ f.addrs.length ∧ true = (f.addrs.take (i + 1)).any fun y => decide (y = l.addr) := ⟨h, by rw [hs]; simp only [Bool.false_or]; exact (decide_eq_true hq).symm⟩
          clear hb hs
          exact wk trueW trueW trueW
        · have hok : i + 1 ≤ f.addrs.length ∧ false = (f.addrs.take (i + 1)).any fun y => decide (y = l.addr) := ⟨h, by rw [hs]; simp only [Bool.false_or]; exact (decide_eq_false hq).symm⟩
          clear hb hs
          exact wk trueW trueW trueW
    · obtain rfl : i = f.addrs.length := by omega
      rw [List.take_length] at hb
      rw [← hb]
      clear hb
      refine wk ?_ trueW trueW
      refine LC.loop2 (fun i b2 => [(2, .p 2 0), (3, .p 3 0), (5, .k (.bool b2)), (33, wsV f.topics), (34, .k (.int .i64 ((f.topics.length : Nat) : Int))), (35, .k (.int .i64 ((i : Nat) : Int)))]) (fun i b2 => [(2, .b (flC f)), (3, .b (lgC l))]) (fun i b2 => i ≤ f.topics.length ∧ b2 = (b && (f.topics.take i).all fun t => l.topics.any fun u => decide (t = u))) ((f.topics.length - ·)) (0) (b) ⟨by omega, by rw [List.take_zero, List.all_nil, Bool.and_true]⟩ ⟨rfl, rfl, rfl, rfl, rfl, rfl, trivial⟩ ⟨rfl, rfl, trivial⟩ rfl rfW rfW ?_
      rintro i b2 ⟨hi, hb2⟩
      rcases Nat.lt_or_ge i f.topics.length with h | h
      · have hft := kf.tops _ (getD_mem' (d := default) h)
        have hlw := limbs_len (f.topics.getD i default)
        have hs2 := all_snoc (l := f.topics) (i := i) (fun t => l.topics.any fun u => decide (t = u)) h
        refine wk ?_ trueW trueW
        refine LC.loop2 (fun j c => [(2, .p 2 0), (3, .p 3 0), (5, .k (.bool b2)), (9, .p 9 0), (10, .k (.bool c)), (33, wsV f.topics), (34, .k (.int .i64 ((f.topics.length : Nat) : Int))), (35, .k (.int .i64 ((i : Nat) : Int))), (40, wsV l.topics), (41, .k (.int .i64 ((l.topics.length : Nat) : Int))), (42, .k (.int .i64 ((j : Nat) : Int)))]) (fun j c => [(2, .b (flC f)), (3, .b (lgC l)), (9, .b ((limbs (f.topics.getD i default)).map uK))]) (fun j c => j ≤ l.topics.length ∧ c = (l.topics.take j).any fun u => decide (f.topics.getD i default = u)) ((l.topics.length - ·)) (0) (false) ⟨by omega, by rw [List.take_zero, List.any_nil]⟩ ⟨rfl, rfl, rfl, rfl, rfl, rfl, rfl, rfl, rfl, rfl, rfl, trivial⟩ ⟨rfl, rfl, rfl, trivial⟩ rfl rfW rfW ?_
        rintro j c ⟨hj, hc⟩
        rcases Nat.lt_or_ge j l.topics.length with h2 | h2
        · have hlt := kl.tops _ (getD_mem' (d := default) h2)
          have hlw2 := limbs_len (l.topics.getD j default)
          have hs3 := any_snoc (l := l.topics) (i := j) (fun u => decide (f.topics.getD i default = u)) h2
          rw [← hc] at hs3
          clear hs2 hb2
          cases c with
          | true =>
            have hok : j + 1 ≤ l.topics.length ∧ true = (l.topics.take (j + 1)).any fun u => decide (f.topics.getD i default = u) := ⟨h2, by rw [hs3]; rfl⟩
            clear hc hs3
            exact wk trueW trueW trueW
          | false =>
            by_cases hq : f.topics.getD i default = l.topics.getD j default
            · have hok : j + 1 ≤ l.topics.length ∧ true = (l.topics.take (j + 1)).any fun u => decide (f.topics.getD i default = u) := ⟨h2, by rw [hs3]; simp only [Bool.false_or]; exact (decide_eq_true hq).symm⟩
              have hq2 : limbs (f.topics.getD i default) = limbs (l.topics.getD j default) := by rw [hq]
              clear hc hs3 hq
              exact wk trueW trueW trueW
            · have hok : j + 1 ≤ l.topics.length ∧ false = (l.topics.take (j + 1)).any fun u => decide (f.topics.getD i default = u) := ⟨h2, by rw [hs3]; simp only [Bool.false_or]; exact (decide_eq_false hq).symm⟩
              have hq2 : ¬ limbs (f.topics.getD i default) = limbs (l.topics.getD j default) := fun e => hq (limbs_inj' hft hlt e)
              clear hc hs3 hq
              exact wk trueW trueW trueW
        · obtain rfl : j = l.topics.length := by omega
          rw [List.take_length] at hc
          have hok : i + 1 ≤ f.topics.length ∧ (b2 && c) = (b && (f.topics.take (i + 1)).all fun t => l.topics.any fun u => decide (t = u)) := ⟨h, by rw [hs2, hb2, hc, Bool.and_assoc]⟩
          clear hc hs2 hb2
          cases b2 <;> cases c
          · exact wk trueW trueW trueW
          · exact wk trueW trueW trueW
          · exact wk trueW trueW trueW
          · exact wk trueW trueW trueW
      · obtain rfl : i = f.topics.length := by omega
        rw [List.take_length] at hb2
        rw [← hb2]
        clear hb2
        exact wk trueW trueW trueW
end Sf
end Lf
end Go.Proofs.Ytpchigdcikknmaa

/- Sift: where finds lie, no program in sight. -/
namespace Go.Proofs.Ytpchigdcikknmaa
open Go.RowKit Rg Wm Ar
set_option maxRecDepth 100000
namespace Lf
/-- One find lies ahead of another: by its page, its receipt, its log. -/
def ltQ (p q : Nat × Fd) : Prop := p.1 < q.1 ∨ (p.1 = q.1 ∧ (p.2.tx < q.2.tx ∨ (p.2.tx = q.2.tx ∧ p.2.at_ < q.2.at_)))
def allQ (lk : Rc → Bool) : Nat → List Pg → List (Nat × Fd)
  | _, [] => []
  | k, p :: ps => (recsF lk p.number p.recs).map (fun d => (k, d)) ++ allQ lk (k + 1) ps
theorem allQ_snd (lk : Rc → Bool) : ∀ (ps : List Pg) (k : Nat), (allQ lk k ps).map (·.2) = allF lk ps
  | [], _ => by rw [all_nil]; rfl
  | p :: ps, k => by
    rw [allQ, List.map_append, allQ_snd lk ps, allF_cons, List.map_map]
    congr 1
    exact (List.map_congr_left fun _ _ => rfl).trans (List.map_id _)
theorem recF_at {n i : Nat} {ls : List Lg} : ∀ d ∈ recF n i ls, d.number = n ∧ d.tx = i ∧ d.at_ < ls.length ∧ ls.getD d.at_ default = d.log := fun d hd => by
  unfold recF at hd
  obtain ⟨k, hk, rfl⟩ := List.mem_mapIdx.1 hd
  refine ⟨rfl, rfl, hk, ?_⟩
  rw [List.getD_eq_getElem?_getD, List.getElem?_eq_getElem hk]
  rfl
theorem recsF_at {lk : Rc → Bool} {n : Nat} {rs : List Rc} : ∀ d ∈ recsF lk n rs, d.number = n ∧ d.tx < rs.length ∧ d.at_ < (rs.getD d.tx default).logs.length ∧ (rs.getD d.tx default).logs.getD d.at_ default = d.log := fun d hd => by
  unfold recsF at hd
  obtain ⟨l, hl1, hd⟩ := List.mem_flatten.1 hd
  obtain ⟨k, hk, rfl⟩ := List.mem_mapIdx.1 hl1
  cases h : lk rs[k] with
  | false => rw [h] at hd; cases hd
  | true =>
    rw [h, cond_true] at hd
    obtain ⟨h1, h2, h3, h4⟩ := recF_at d hd
    have e : rs.getD k default = rs[k] := by rw [List.getD_eq_getElem?_getD, List.getElem?_eq_getElem hk]; rfl
    rw [h2, e]
    exact ⟨h1, hk, h3, h4⟩
theorem allQ_at {lk : Rc → Bool} : ∀ {ps : List Pg} {k : Nat}, ∀ q ∈ allQ lk k ps, k ≤ q.1 ∧ q.1 - k < ps.length ∧ q.2 ∈ recsF lk (ps.getD (q.1 - k) default).number (ps.getD (q.1 - k) default).recs
  | [], _, q, h => by cases h
  | p :: ps, k, q, h => by
    rw [allQ] at h
    rcases List.mem_append.1 h with h | h
    · obtain ⟨d, hd, rfl⟩ := List.mem_map.1 h
      simp only [Nat.sub_self, List.length_cons, List.getD_cons_zero]
      exact ⟨Nat.le_refl _, by omega, hd⟩
    · obtain ⟨h1, h2, h3⟩ := allQ_at q h
      have e : q.1 - k = (q.1 - (k + 1)) + 1 := by omega
      rw [e, List.getD_cons_succ, List.length_cons]
      exact ⟨by omega, by omega, h3⟩
theorem recF_pw (n i : Nat) (ls : List Lg) : (recF n i ls).Pairwise fun x y => x.tx < y.tx ∨ (x.tx = y.tx ∧ x.at_ < y.at_) := by
  rw [List.pairwise_iff_getElem]
  intro a b ha hb hab
  unfold recF at ha hb ⊢
  rw [List.getElem_mapIdx, List.getElem_mapIdx]
  exact .inr ⟨rfl, hab⟩
theorem recsF_pw (lk : Rc → Bool) (n : Nat) (rs : List Rc) : (recsF lk n rs).Pairwise fun x y => x.tx < y.tx ∨ (x.tx = y.tx ∧ x.at_ < y.at_) := by
  unfold recsF
  rw [List.pairwise_flatten]
  refine ⟨fun l hl => ?_, ?_⟩
  · obtain ⟨k, hk, rfl⟩ := List.mem_mapIdx.1 hl
    cases lk rs[k] with
    | true => exact recF_pw _ _ _
    | false => exact List.Pairwise.nil
  · rw [List.pairwise_iff_getElem]
    intro a b ha hb hab x hx y hy
    rw [List.getElem_mapIdx] at hx hy
    have key : ∀ (k : Nat) (r : Rc) (d : Fd), d ∈ cond (lk r) (recF n k r.logs) [] → d.tx = k := fun k r d hd => by
      cases h : lk r with
      | true => rw [h] at hd; exact (recF_at d hd).2.1
      | false => rw [h] at hd; cases hd
    rw [key _ _ _ hx, key _ _ _ hy]
    exact .inl hab
theorem allQ_pw (lk : Rc → Bool) : ∀ (ps : List Pg) (k : Nat), (allQ lk k ps).Pairwise ltQ
  | [], _ => List.Pairwise.nil
  | p :: ps, k => by
    rw [allQ, List.pairwise_append]
    refine ⟨?_, allQ_pw lk ps (k + 1), fun x hx y hy => ?_⟩
    · rw [List.pairwise_map]
      exact (recsF_pw lk p.number p.recs).imp fun h => .inr ⟨rfl, h⟩
    · obtain ⟨d, _, rfl⟩ := List.mem_map.1 hx
      have := (allQ_at y hy).1
      exact .inl (by show k < y.1; omega)
/-- What is found, each with its page. -/
def sureQ (lk : Rc → Bool) (f : Fl) (ps : List Pg) : List (Nat × Fd) := (allQ lk 0 ps).filter fun q => lets f q.2.log
theorem sureQ_snd {lk : Rc → Bool} {f : Fl} {ps : List Pg} (h : PgsOk ps) : (sureQ lk f ps).map (·.2) = foundL lk f 4611686018427387904 ps := by
  rw [found_all h, ← allQ_snd lk ps 0, List.filter_map]
  rfl
/-- All that the law asks of a find's place. -/
structure SureAt (f : Fl) (ps : List Pg) (q : Nat × Fd) : Prop where
  pg : q.1 < ps.length
  num : q.2.number = (ps.getD q.1 default).number
  tx : q.2.tx < (ps.getD q.1 default).recs.length
  at_ : q.2.at_ < ((ps.getD q.1 default).recs.getD q.2.tx default).logs.length
  log : ((ps.getD q.1 default).recs.getD q.2.tx default).logs.getD q.2.at_ default = q.2.log
  thr : lets f q.2.log = true
theorem sureQ_at {lk : Rc → Bool} {f : Fl} {ps : List Pg} : ∀ q ∈ sureQ lk f ps, SureAt f ps q := fun q hq => by
  unfold sureQ at hq
  obtain ⟨h1, h2⟩ := List.mem_filter.1 hq
  obtain ⟨_, a2, a3⟩ := allQ_at q h1
  rw [Nat.sub_zero] at a2 a3
  obtain ⟨b1, b2, b3, b4⟩ := recsF_at _ a3
  exact ⟨a2, b1, b2, b3, b4, h2⟩
theorem sureQ_pw (lk : Rc → Bool) (f : Fl) (ps : List Pg) : (sureQ lk f ps).Pairwise ltQ := (allQ_pw lk ps 0).filter _
theorem sureQ_next {lk : Rc → Bool} {f : Fl} {ps : List Pg} {m : Nat} (h : m + 1 < (sureQ lk f ps).length) : ltQ ((sureQ lk f ps).getD m default) ((sureQ lk f ps).getD (m + 1) default) := by
  have := List.pairwise_iff_getElem.1 (sureQ_pw lk f ps) m (m + 1) (by omega) h (by omega)
  rw [List.getD_eq_getElem?_getD, List.getD_eq_getElem?_getD, List.getElem?_eq_getElem h, List.getElem?_eq_getElem (show m < _ by omega)]
  exact this
/-- What has been matched lies ahead of what comes. -/
def AheadQ (a : Nat) (b c : Int) (q : Nat × Fd) : Prop := a < q.1 ∨ (a = q.1 ∧ (b < (q.2.tx : Int) ∨ (b = (q.2.tx : Int) ∧ c < (q.2.at_ : Int))))
end Lf
end Go.Proofs.Ytpchigdcikknmaa

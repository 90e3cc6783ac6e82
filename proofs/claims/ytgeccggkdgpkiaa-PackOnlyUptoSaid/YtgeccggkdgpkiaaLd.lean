/- A region that draws its order, over the lifted state: one plan serves every order. -/
import Derived.Test.YtgeccggkdgpkiaaLs
namespace Go.Proofs.Ytgeccggkdgpkiaa
open Go.RowKit Rg
namespace Lf
/-- An operation of a plan: its number, whether it is skipped, what it yields, what it meets. -/
structure It where
  i : Nat
  o : Oper
  skip : Bool
  v : V
  t : Tch
def It.tt (x : It) : Tch := cond x.skip [] x.t
def It.vv (x : It) : V := cond x.skip (.k undef) x.v

section
variable {P : Program} {N : Nat} {ops : Array Oper}
structure Valid (P : Program) (N : Nat) (ops : Array Oper) (x : It) (env : Env) (mem : Mem) : Prop where
  at_ : ops[x.i]? = some x.o
  gdd : gd ops env x.o = some (!x.skip)
  does : x.skip = false → Does P x.o env x.v x.t ∧ tpre x.t mem
  dst : dok x.o.dst N = true
def appE (x : It) (env : Env) : Env := bind x.o.dst x.vv env
def appM (x : It) (mem : Mem) : Mem := tset x.tt mem
def SR (P : Program) (N : Nat) (ops : Array Oper) : List It → Env → Mem → Prop
  | [], _, _ => True
  | x :: r, env, mem => Valid P N ops x env mem ∧ SR P N ops r (appE x env) (appM x mem)
def finE : List It → Env → Env
  | [], env => env
  | x :: r, env => finE r (appE x env)
def finM : List It → Mem → Mem
  | [], mem => mem
  | x :: r, mem => finM r (appM x mem)
structure Eqv (env : Env) (mem : Mem) (env' : Env) (mem' : Mem) : Prop where
  e : ∀ t, aget env t = aget env' t
  m : ∀ i, aget mem i = aget mem' i
theorem Eqv.refl (env : Env) (mem : Mem) : Eqv env mem env mem := ⟨fun _ => rfl, fun _ => rfl⟩
theorem Eqv.trans {a b c : Env} {x y z : Mem} (h : Eqv a x b y) (k : Eqv b y c z) : Eqv a x c z := ⟨fun t => (h.e t).trans (k.e t), fun i => (h.m i).trans (k.m i)⟩
theorem Eqv.symm {a b : Env} {x y : Mem} (h : Eqv a x b y) : Eqv b y a x := ⟨fun t => (h.e t).symm, fun i => (h.m i).symm⟩

theorem aget_tset {t : Tch} {mem : Mem} {i : Nat} (h : ∀ m m', (i, m, some m') ∉ t) : aget (tset t mem) i = aget mem i := by
  induction t with
  | nil => rfl
  | cons x r ih =>
    obtain ⟨j, m, m'⟩ := x
    cases m' with
    | none => exact ih fun a b hm => h a b (List.mem_cons_of_mem _ hm)
    | some m' =>
      have hne : j ≠ i := fun e => h m m' (by rw [e]; exact List.mem_cons_self)
      simp only [tset]
      rw [aget_ne hne]
      exact ih fun a b hm => h a b (List.mem_cons_of_mem _ hm)
theorem tset_congr {t : Tch} {mem mem' : Mem} (h : ∀ i, aget mem i = aget mem' i) : ∀ i, aget (tset t mem) i = aget (tset t mem') i := by
  induction t with
  | nil => exact h
  | cons x r ih =>
    obtain ⟨j, m, m'⟩ := x
    intro i
    cases m' with
    | none => exact ih i
    | some m' => simp only [tset, aget_cons]; split
                 · rfl
                 · exact ih i
theorem bind_congr {d : Option Nat} {v : V} {env env' : Env} (h : ∀ t, aget env t = aget env' t) : ∀ t, aget (bind d v env) t = aget (bind d v env') t := by
  intro t
  cases d with
  | none => exact h t
  | some d => simp only [bind, aget_cons]; split
              · rfl
              · exact h t
theorem evo_congr {env env' : Env} {x : Operand} (h : ∀ t, x = .tmp t → aget env t = aget env' t) : evo env x = evo env' x := by
  cases x <;> simp only [evo]
  exact h _ rfl
theorem Does.congr {o : Oper} {env env' : Env} {v : V} {t : Tch} (h : Does P o env v t) (he : ∀ x ∈ o.op.operands.toList, evo env x = evo env' x) : Does P o env' v t :=
  ⟨fun F g a w mem h1 => h.ex F g a w mem fun x hx u hu => h1 x hx u (by rw [← he x hx]; exact hu)⟩
theorem gd_congr {o : Oper} {env env' : Env} (h : ∀ j want d, o.guard = some (j, want) → (ops[j]?).bind (·.dst) = some d → aget env d = aget env' d) : gd ops env o = gd ops env' o := by
  unfold gd
  split
  · rfl
  · rename_i j want hn
    split
    · rename_i d hd
      rw [h j want d hn hd]
    · rfl
theorem Valid.congr {x : It} {env env' : Env} {mem mem' : Mem} (h : Valid P N ops x env mem) (he : Eqv env mem env' mem') : Valid P N ops x env' mem' :=
  ⟨h.at_, by rw [← h.gdd]; exact (gd_congr fun _ _ d _ _ => he.e d).symm, fun hs => ⟨(h.does hs).1.congr fun y _ => evo_congr fun t _ => he.e t, fun i m m' hi => by rw [← he.m i]; exact (h.does hs).2 i m m' hi⟩, h.dst⟩
theorem SR.congr : ∀ {l : List It} {env env' : Env} {mem mem' : Mem}, SR P N ops l env mem → Eqv env mem env' mem' → SR P N ops l env' mem'
  | [], _, _, _, _, _, _ => trivial
  | _ :: _, _, _, _, _, h, he => ⟨h.1.congr he, SR.congr h.2 ⟨bind_congr he.e, tset_congr he.m⟩⟩
theorem fin_congr : ∀ {l : List It} {env env' : Env} {mem mem' : Mem}, Eqv env mem env' mem' → Eqv (finE l env) (finM l mem) (finE l env') (finM l mem')
  | [], _, _, _, _, he => he
  | _ :: r, _, _, _, _, he => fin_congr (l := r) ⟨bind_congr he.e, tset_congr he.m⟩

/-- They do not meet: neither looks at what the other writes. -/
def compat (s t : Tch) : Bool := s.all fun x => t.all fun y => !(Nat.beq x.1 y.1) || (x.2.2.isNone && y.2.2.isNone)
theorem compat_spec {s t : Tch} (h : compat s t = true) {i : Nat} {m n : Option M} {m' n' : Option M} (hs : (i, m, m') ∈ s) (ht : (i, n, n') ∈ t) : m' = none ∧ n' = none := by
  unfold compat at h
  rw [List.all_eq_true] at h
  have h1 := h _ hs
  rw [List.all_eq_true] at h1
  have h2 := h1 _ ht
  simp only [Nat.beq_refl, Bool.not_true, Bool.false_or, Bool.and_eq_true, Option.isNone_iff_eq_none] at h2
  exact h2
structure Indep (ops : Array Oper) (x y : It) : Prop where
  apart : x.o.apart ops y.o = true
  t : compat x.tt y.tt = true

theorem aget_appE {x : It} {env : Env} {t : Nat} (h : x.o.dst ≠ some t) : aget (appE x env) t = aget env t := by
  unfold appE bind
  cases hd : x.o.dst with
  | none => rfl
  | some d => exact aget_ne (fun e => h (by rw [hd, e])) _ _
/-- A valid item behind another one that it does not meet is valid ahead of it, and the other way round. -/
theorem Valid.move {x y : It} {env : Env} {mem : Mem} (hl : ∀ d, x.o.dst = some d → d ∉ y.o.looksAt ops) (hc : ∀ i m m' n n', (i, m, m') ∈ x.tt → (i, n, n') ∈ y.tt → m' = none ∧ n' = none) : Valid P N ops y (appE x env) (appM x mem) ↔ Valid P N ops y env mem := by
  have he : ∀ z ∈ y.o.op.operands.toList, evo (appE x env) z = evo env z := fun z hz => evo_congr fun t ht => aget_appE fun e => hl t e (by
    subst ht
    simp only [Oper.looksAt, List.mem_append, List.mem_filterMap]
    exact .inl ⟨_, hz, rfl⟩)
  have hg : gd ops (appE x env) y.o = gd ops env y.o := gd_congr fun j want d hgd hd => aget_appE fun e => hl d e (by
    simp only [Oper.looksAt, hgd, hd, List.mem_append]
    exact .inr (by simp))
  have hm : y.skip = false → ∀ i n n', (i, n, n') ∈ y.t → aget (appM x mem) i = aget mem i := fun hs i n n' hi => aget_tset fun m m' hx => by
    have := (hc i m (some m') n n' hx (by rw [It.tt, hs]; exact hi)).1
    cases this
  constructor
  · intro h
    exact ⟨h.at_, by rw [← hg]; exact h.gdd, fun hs => ⟨(h.does hs).1.congr he, fun i n n' hi => by rw [← hm hs i n n' hi]; exact (h.does hs).2 i n n' hi⟩, h.dst⟩
  · intro h
    exact ⟨h.at_, by rw [hg]; exact h.gdd, fun hs => ⟨(h.does hs).1.congr fun z hz => (he z hz).symm, fun i n n' hi => by rw [hm hs i n n' hi]; exact (h.does hs).2 i n n' hi⟩, h.dst⟩

theorem app_comm {x y : It} (h : Indep ops x y) (env : Env) (mem : Mem) : Eqv (appE y (appE x env)) (appM y (appM x mem)) (appE x (appE y env)) (appM x (appM y mem)) := by
  obtain ⟨p1, p2, p3⟩ := Oper.apart_spec h.apart
  refine ⟨fun t => ?_, fun i => ?_⟩
  · by_cases hx : x.o.dst = some t
    · have hy : y.o.dst ≠ some t := fun e => p2 t hx e
      rw [aget_appE hy]
      unfold appE bind
      rw [hx]
      simp only [aget_self]
    · rw [aget_appE hx]
      by_cases hy : y.o.dst = some t
      · unfold appE bind
        rw [hy]
        simp only [aget_self]
      · rw [aget_appE hy, aget_appE hx, aget_appE hy]
  · by_cases hx : ∃ m m', (i, m, some m') ∈ x.tt
    · obtain ⟨m, m', hm⟩ := hx
      have hy : ∀ n n', (i, n, some n') ∉ y.tt := fun n n' hn => by have := (compat_spec h.t hm hn).1; cases this
      have e1 : aget (appM y (appM x mem)) i = aget (appM x mem) i := aget_tset hy
      rw [e1]
      have key : ∀ (t : Tch) (m1 m2 : Mem), (∃ m m', (i, m, some m') ∈ t) → aget (tset t m1) i = aget (tset t m2) i := by
        intro t m1 m2 ⟨m, m', hm⟩
        induction t with
        | nil => cases hm
        | cons z r ih =>
          obtain ⟨j, a, b⟩ := z
          cases b with
          | none =>
            simp only [tset]
            rcases List.mem_cons.1 hm with hm | hm
            · cases hm
            · exact ih hm
          | some b =>
            simp only [tset, aget_cons]
            split
            · rfl
            · rename_i hne
              rcases List.mem_cons.1 hm with hm | hm
              · cases hm; exact absurd rfl hne
              · exact ih hm
      exact key x.tt mem (appM y mem) ⟨m, m', hm⟩
    · have hx' : ∀ m m', (i, m, some m') ∉ x.tt := fun m m' hm => hx ⟨m, m', hm⟩
      have e1 : aget (appM x (appM y mem)) i = aget (appM y mem) i := aget_tset hx'
      rw [e1]
      by_cases hy : ∃ m m', (i, m, some m') ∈ y.tt
      · obtain ⟨m, m', hm⟩ := hy
        have key : ∀ (t : Tch) (m1 m2 : Mem), (∃ m m', (i, m, some m') ∈ t) → aget (tset t m1) i = aget (tset t m2) i := by
          intro t m1 m2 ⟨m, m', hm⟩
          induction t with
          | nil => cases hm
          | cons z r ih =>
            obtain ⟨j, a, b⟩ := z
            cases b with
            | none =>
              simp only [tset]
              rcases List.mem_cons.1 hm with hm | hm
              · cases hm
              · exact ih hm
            | some b =>
              simp only [tset, aget_cons]
              split
              · rfl
              · rename_i hne
                rcases List.mem_cons.1 hm with hm | hm
                · cases hm; exact absurd rfl hne
                · exact ih hm
        exact key y.tt (appM x mem) mem ⟨m, m', hm⟩
      · have hy' : ∀ m m', (i, m, some m') ∉ y.tt := fun m m' hm => hy ⟨m, m', hm⟩
        have e2 : aget (appM y (appM x mem)) i = aget (appM x mem) i := aget_tset hy'
        have e3 : aget (appM x mem) i = aget mem i := aget_tset hx'
        have e4 : aget (appM y mem) i = aget mem i := aget_tset hy'
        rw [e2, e3, e4]

/-- An item that meets none of those ahead of it is taken first. -/
theorem SR.first {y : It} : ∀ {pre : List It} {post : List It} {env : Env} {mem : Mem}, SR P N ops (pre ++ y :: post) env mem → (∀ x ∈ pre, Indep ops x y) →
    SR P N ops (y :: (pre ++ post)) env mem ∧ Eqv (finE (pre ++ y :: post) env) (finM (pre ++ y :: post) mem) (finE (y :: (pre ++ post)) env) (finM (y :: (pre ++ post)) mem)
  | [], post, env, mem, h, _ => ⟨h, Eqv.refl _ _⟩
  | x :: pre, post, env, mem, h, hi => by
    have hxy := hi x (by simp)
    obtain ⟨p1, p2, p3⟩ := Oper.apart_spec hxy.apart
    obtain ⟨k1, k2⟩ := SR.first (pre := pre) h.2 fun z hz => hi z (by simp [hz])
    have hvy : Valid P N ops y env mem := (Valid.move p1 fun i m m' n n' h1 h2 => compat_spec hxy.t h1 h2).1 k1.1
    have hvx : Valid P N ops x (appE y env) (appM y mem) := (Valid.move p3 fun i m m' n n' h1 h2 => (compat_spec hxy.t h2 h1).symm).2 h.1
    have hc := app_comm hxy env mem
    refine ⟨⟨hvy, hvx, k1.2.congr hc⟩, k2.trans ?_⟩
    exact fin_congr (l := pre ++ post) hc

theorem Rel.congr {F : Fr0} {g : Gh} {env env' : Env} {mem mem' : Mem} {a : Act} {w : World} (h : Rel F N g env mem a w) (he : Eqv env mem env' mem') : Rel F N g env' mem' a w :=
  ⟨fun t v ht => h.env t v (by rw [he.e]; exact ht), h.mem.congr he.m, h.kept, h.defers, h.size, h.big⟩

/-- What is left of a plan: just what has not come up; in an order that the edges allow; what does not wait for each other does not meet. -/
structure Plan (ops : Array Oper) (W : Array Nat) (listed : Array Bool) (its : List It) : Prop where
  mem : ∀ i, i < ops.size → (listed.getD i true = false ↔ ∃ x ∈ its, x.i = i)
  lt : ∀ x ∈ its, x.i < ops.size
  nodup : its.Pairwise fun x y => x.i ≠ y.i
  ext : ∀ pre x post, its = pre ++ x :: post → ∀ o, ops[x.i]? = some o → ∀ e ∈ o.after, Region.binds .any e = true → e.on < ops.size ∧ ∀ y ∈ x :: post, y.i ≠ e.on
  ind : its.Pairwise fun x y => waits W y.i x.i = true ∨ Indep ops x y
  size : listed.size = ops.size

theorem any_run {F : Fr0} {Q : Exit → Act → World → Prop} {W : Array Nat} (hW : waitsB .any ops W = true) : ∀ (n : Nat) (its : List It) (env : Env) (mem : Mem) (listed : Array Bool) (g : Gh) (a : Act) (w : World), its.length = n → SR P N ops its env mem → Plan ops W listed its → Closed .any ops listed → Rel F N g env mem a w →
    (∀ g a w, Rel F N g (finE its env) (finM its mem) a w → Q .normal a w) → wpAny P .any ops Q n listed a w
  | 0, its, env, mem, listed, g, a, w, hl, _, hp, _, hr, hQ => by
    have : its = [] := List.eq_nil_of_length_eq_zero hl
    subst this
    refine ⟨?_, hQ g a w hr⟩
    cases hq : Region.ready .any ops listed with
    | nil => rfl
    | cons j r =>
      obtain ⟨h1, o, ho, _⟩ := mem_ready.1 (show j ∈ Region.ready .any ops listed by rw [hq]; simp)
      have hj := (Array.getElem?_eq_some_iff.1 ho).1
      obtain ⟨x, hx, _⟩ := (hp.mem j hj).1 (by simpa using h1)
      cases hx
  | n + 1, its, env, mem, listed, g, a, w, hl, hs, hp, hc, hr, hQ => by
    have hrd : ∀ x pre post, its = pre ++ x :: post → (∀ o, ops[x.i]? = some o → ∀ e ∈ o.after, Region.binds .any e = true → ∀ y ∈ pre, y.i ≠ e.on) → x.i ∈ Region.ready .any ops listed := by
      intro x pre post hits hall
      have hxm : x ∈ its := by rw [hits]; simp
      have hlt := hp.lt x hxm
      refine mem_ready.2 ⟨by simpa using (hp.mem x.i hlt).2 ⟨x, hxm, rfl⟩, ops[x.i], Array.getElem?_eq_getElem hlt, fun e he hb => ?_⟩
      obtain ⟨h1, h2⟩ := hp.ext pre x post hits _ (Array.getElem?_eq_getElem hlt) e he hb
      have hlist : ¬ listed.getD e.on true = false := fun hf => by
        obtain ⟨y, hy, hye⟩ := (hp.mem e.on h1).1 hf
        rw [hits] at hy
        rcases List.mem_append.1 hy with hy | hy
        · exact hall _ (Array.getElem?_eq_getElem hlt) e he hb y hy hye
        · exact h2 y hy hye
      have hsz : e.on < listed.size := by rw [hp.size]; exact h1
      simp only [Array.getD, hsz, dif_pos] at hlist ⊢
      simpa using hlist
    constructor
    · intro h0
      cases its with
      | nil => simp at hl
      | cons x r =>
        have := hrd x [] r rfl fun _ _ _ _ _ _ hy => by cases hy
        rw [h0] at this; cases this
    · intro j hj
      obtain ⟨hun, o, ho, hall⟩ := mem_ready.1 hj
      have hjlt := (Array.getElem?_eq_some_iff.1 ho).1
      obtain ⟨y, hy, hyj⟩ := (hp.mem j hjlt).1 (by simpa using hun)
      subst hyj
      obtain ⟨pre, post, hits⟩ := List.append_of_mem hy
      subst hits
      have hind : ∀ x ∈ pre, Indep ops x y := fun x hx => by
        have h1 := (List.pairwise_append.1 hp.ind).2.2 x hx y (by simp)
        rcases h1 with h1 | h1
        · exfalso
          have hxlt := hp.lt x (by simp [hx])
          have hxl := waits_listed hW hc hxlt y.i y.i o (Nat.le_refl _) ho hall h1
          have hxu := (hp.mem x.i hxlt).2 ⟨x, by simp [hx], rfl⟩
          have hsz : x.i < listed.size := by rw [hp.size]; exact hxlt
          simp only [Array.getD, hsz, dif_pos] at hxl hxu
          rw [hxl] at hxu; cases hxu
        · exact h1
      obtain ⟨k1, k2⟩ := hs.first hind
      obtain ⟨hv, hrest⟩ := k1
      have hov : y.o = o := by have := hv.at_; rw [ho] at this; exact (Option.some.inj this).symm
      subst hov
      have hp' : Plan ops W (listed.setIfInBounds y.i true) (pre ++ post) := by
        have hnd := List.pairwise_append.1 hp.nodup
        have hnd2 := List.pairwise_cons.1 hnd.2.1
        have hne : ∀ z ∈ pre ++ post, z.i ≠ y.i := fun z hz => by
          rcases List.mem_append.1 hz with hz | hz
          · exact hnd.2.2 z hz y (by simp)
          · exact (hnd2.1 z hz).symm
        refine ⟨fun i hi => ?_, fun x hx => hp.lt x (by rcases List.mem_append.1 hx with h | h <;> simp [h]), ?_, fun pre' x post' hits o' ho' e he hb => ?_, ?_, by simp [hp.size]⟩
        · by_cases hiy : y.i = i
          · subst hiy
            have hsz : y.i < listed.size := by rw [hp.size]; exact hi
            simp only [Array.getD, Array.size_setIfInBounds, hsz, dif_pos]
            constructor
            · intro h; simp at h
            · rintro ⟨x, hx, hxi⟩; exact absurd hxi (hne x hx)
          · rw [getD_set_ne true hiy, hp.mem i hi]
            constructor
            · rintro ⟨x, hx, hxi⟩
              rcases List.mem_append.1 hx with h | h
              · exact ⟨x, by simp [h], hxi⟩
              · rcases List.mem_cons.1 h with rfl | h
                · exact absurd hxi hiy
                · exact ⟨x, by simp [h], hxi⟩
            · rintro ⟨x, hx, hxi⟩
              exact ⟨x, by rcases List.mem_append.1 hx with h | h <;> simp [h], hxi⟩
        · exact List.pairwise_append.2 ⟨hnd.1, hnd2.2, fun a ha b hb => hnd.2.2 a ha b (by simp [hb])⟩
        · have hsub : ∃ pre'' post'', pre ++ y :: post = pre'' ++ x :: post'' ∧ ∀ z ∈ x :: post', z ∈ x :: post'' := by
            rcases List.append_eq_append_iff.1 hits with ⟨us, h1, h2⟩ | ⟨bs, h1, h2⟩
            · refine ⟨pre ++ y :: us, post', by rw [h2]; simp, fun z hz => hz⟩
            · cases bs with
              | nil =>
                simp at h1 h2
                subst h1
                refine ⟨pre ++ [y], post', by rw [← h2]; simp, fun z hz => hz⟩
              | cons b bs =>
                simp at h2
                obtain ⟨rfl, h2⟩ := h2
                refine ⟨pre', bs ++ y :: post, by rw [h1]; simp, fun z hz => ?_⟩
                rcases List.mem_cons.1 hz with rfl | hz
                · simp
                · rw [h2] at hz
                  rcases List.mem_append.1 hz with h | h <;> simp [h]
          obtain ⟨pre'', post'', h1, h2⟩ := hsub
          obtain ⟨h3, h4⟩ := hp.ext pre'' x post'' h1 o' ho' e he hb
          exact ⟨h3, fun z hz => h4 z (h2 z hz)⟩
        · have hpi := List.pairwise_append.1 hp.ind
          exact List.pairwise_append.2 ⟨hpi.1, (List.pairwise_cons.1 hpi.2.1).2, fun a ha b hb => hpi.2.2 a ha b (by simp [hb])⟩
      have next : ∀ g' a' w', Rel F N g' (appE y env) (appM y mem) a' w' → wpAny P .any ops Q n (listed.setIfInBounds y.i true) a' w' := fun g' a' w' hr' =>
        any_run hW n (pre ++ post) _ _ _ g' a' w' (by simp at hl ⊢; omega) hrest hp' (hc.step hj) hr' fun g2 a2 w2 hr2 => hQ g2 a2 w2 (hr2.congr k2.symm)
      unfold wpOp
      rw [ho]
      simp only
      have hwant := gd_wanted hr hv.gdd
      rw [hwant]
      cases hsk : y.skip
      · simp only [Bool.not_false, if_true]
        refine .inl ((hv.does hsk).1.run hr (hv.does hsk).2 hv.dst fun g' a' w' hr' => next g' a' w' ?_)
        simpa [appE, appM, It.vv, It.tt, hsk] using hr'
      · simp only [Bool.not_true, Bool.false_eq_true, if_false]
        refine next g _ w ?_
        have := hr.put (d := y.o.dst) (v := .k undef) (x := undef) (Ev.refl g w) hr.mem hr.kept (.k undef) hv.dst
        simpa [appE, appM, It.vv, It.tt, hsk, tset] using this
end
end Lf
end Go.Proofs.Ytgeccggkdgpkiaa

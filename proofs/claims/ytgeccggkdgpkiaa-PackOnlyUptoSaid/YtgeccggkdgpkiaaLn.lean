/- Contracts with other numbers for what is lent and for what is new. -/
import Derived.Test.YtgeccggkdgpkiaaLop5
namespace Go.Proofs.Ytgeccggkdgpkiaa
open Go.RowKit Rg
namespace Lf
/-- A renumbering. -/
structure Pm where
  f : Nat → Nat
  g : Nat → Nat
  gf : ∀ i, g (f i) = i
  fg : ∀ i, f (g i) = i
def Pm.inv (ρ : Pm) : Pm := ⟨ρ.g, ρ.f, ρ.fg, ρ.gf⟩
theorem Pm.inj (ρ : Pm) {i j : Nat} (h : ρ.f i = ρ.f j) : i = j := by rw [← ρ.gf i, h, ρ.gf]
def swapF (a b i : Nat) : Nat := if i = a then b else if i = b then a else i
theorem swap_swap (a b i : Nat) : swapF a b (swapF a b i) = i := by unfold swapF; (repeat' split) <;> omega
def Pm.comp (ρ τ : Pm) : Pm := ⟨fun i => ρ.f (τ.f i), fun i => τ.g (ρ.g i), fun i => by rw [ρ.gf, τ.gf], fun i => by rw [τ.fg, ρ.fg]⟩
def Pm.swap (a b : Nat) : Pm := ⟨swapF a b, swapF a b, swap_swap a b, swap_swap a b⟩
theorem exists_pm : ∀ (ks is : List Nat), ks.Nodup → is.Nodup → ks.length = is.length → ∃ ρ : Pm, ks.map ρ.f = is
  | [], [], _, _, _ => ⟨⟨id, id, fun _ => rfl, fun _ => rfl⟩, rfl⟩
  | [], _ :: _, _, _, h => by simp at h
  | _ :: _, [], _, _, h => by simp at h
  | k :: ks, i :: is, hk, hi, h => by
    obtain ⟨ρ, hρ⟩ := exists_pm ks is (List.nodup_cons.1 hk).2 (List.nodup_cons.1 hi).2 (by simpa using h)
    refine ⟨(Pm.swap (ρ.f k) i).comp ρ, ?_⟩
    rw [List.map_cons]
    congr 1
    · simp [Pm.comp, Pm.swap, swapF]
    · rw [← hρ]
      refine List.map_congr_left fun j hj => ?_
      have h1 : ρ.f j ≠ ρ.f k := fun e => (List.nodup_cons.1 hk).1 (ρ.inj e ▸ hj)
      have h2 : ρ.f j ≠ i := fun e => (List.nodup_cons.1 hi).1 (by rw [← e, ← hρ]; exact List.mem_map_of_mem hj)
      simp [Pm.comp, Pm.swap, swapF, h1, h2]

def V.ren (ρ : Nat → Nat) : V → V
  | .a cs => .a (go ρ cs)
  | .t cs => .t (go ρ cs)
  | .s (some r) es => .s (some (ρ r)) es
  | .p b off => .p (ρ b) off
  | .sb b off n cap => .sb (ρ b) off n cap
  | .f fn fi ca => .f fn (go ρ fi) (go ρ ca)
  | .i T v => .i T (v.ren ρ)
  | .w b gen sz off n => .w (ρ b) gen sz off n
  | .pw b gen off => .pw (ρ b) gen off
  | .mp b => .mp (ρ b)
  | .y b => .y (ρ b)
  | v => v
where go (ρ : Nat → Nat) : List V → List V
  | [] => []
  | v :: r => v.ren ρ :: go ρ r
theorem ren_go {ρ : Nat → Nat} (cs : List V) : V.ren.go ρ cs = cs.map (V.ren ρ) := by
  induction cs with
  | nil => rfl
  | cons v r ih => rw [V.ren.go, ih, List.map_cons]
theorem ren_one {ρ : Nat → Nat} {v : V} : (v.ren ρ).one = v.one := by
  cases v with
  | s o es => cases o <;> rfl
  | _ => rfl
theorem ren_inv (ρ : Pm) (v : V) : (v.ren ρ.f).ren ρ.g = v := by
  induction v using V.rec (motive_2 := fun l => V.ren.go ρ.g (V.ren.go ρ.f l) = l) with
  | k v => rfl
  | a cs ih => simp only [V.ren, ih]
  | t cs ih => simp only [V.ren, ih]
  | s o es => cases o with
    | none => rfl
    | some r => simp only [V.ren, ρ.gf]
  | nil => rfl
  | p b off => simp only [V.ren, ρ.gf]
  | sb b off n cap => simp only [V.ren, ρ.gf]
  | q cs => rfl
  | f fn fi ca h1 h2 => simp only [V.ren, h1, h2]
  | i T v ih => simp only [V.ren, ih]
  | w b gen sz off n => simp only [V.ren, ρ.gf]
  | pw b gen off => simp only [V.ren, ρ.gf]
  | mp b => simp only [V.ren, ρ.gf]
  | y b => simp only [V.ren, ρ.gf]
  | cons v l h1 h2 => simp only [V.ren.go, h1, h2]
  | _ => rfl
def M.ren (ρ : Nat → Nat) : M → M
  | .b cs => .b (cs.map (V.ren ρ))
  | other => other
theorem mren_inv (ρ : Pm) (m : M) : (m.ren ρ.f).ren ρ.g = m := by
  cases m with
  | b cs => simp only [M.ren, List.map_map]; congr 1; exact (List.map_congr_left fun v _ => ren_inv ρ v).trans (List.map_id cs)
  | _ => rfl
def Mem.ren (ρ : Nat → Nat) (m : List (Nat × M)) : Mem := m.map fun x => (ρ x.1, x.2.ren ρ)
theorem memren_inv (ρ : Pm) (m : Mem) : Mem.ren ρ.g (Mem.ren ρ.f m) = m := by
  simp only [Mem.ren, List.map_map]
  exact (List.map_congr_left fun x _ => by simp [ρ.gf, mren_inv]).trans (List.map_id m)
theorem aget_ren (ρ : Pm) (m : Mem) (i : Nat) : aget (Mem.ren ρ.f m) (ρ.f i) = (aget m i).map (M.ren ρ.f) := by
  induction m with
  | nil => rfl
  | cons x r ih =>
    obtain ⟨n, u⟩ := x
    simp only [Mem.ren, List.map_cons, aget_cons]
    by_cases h : n = i
    · subst h; simp
    · rw [if_neg h, if_neg fun e => h (ρ.inj e)]; exact ih
def Gh.pull (ρ : Nat → Nat) (g : Gh) : Gh := ⟨g.S, fun i => g.bx (ρ i), fun i => g.rw (ρ i)⟩
def Fr0.pull (ρ : Nat → Nat) (F : Fr0) : Fr0 := ⟨F.w0, F.S0, F.B, fun i => F.bx0 (ρ i), fun i => F.rw0 (ρ i), F.D⟩
theorem pull_inv (ρ : Pm) (g : Gh) : (g.pull ρ.g).pull ρ.f = g := by simp [Gh.pull, ρ.gf]
theorem pull_inv' (ρ : Pm) (g : Gh) : (g.pull ρ.f).pull ρ.g = g := by simp [Gh.pull, ρ.fg]
theorem rep_ren {w : World} {ρ : Nat → Nat} {g0 : Gh} {v : V} {x : Value} (h : Rep w g0 v x) : ∀ {g : Gh}, g0 = g.pull ρ → Rep w g (v.ren ρ) x := by
  induction h with
  | k v => intro g _; exact .k v
  | a hl h1 _ ih =>
    intro g hg
    simp only [V.ren, ren_go]
    refine .a (by simpa using hl) (fun u hu => ?_) fun j u x hj hx => ?_
    · obtain ⟨u0, hu0, rfl⟩ := List.mem_map.1 hu; rw [ren_one]; exact h1 u0 hu0
    · rw [List.getElem?_map] at hj
      obtain ⟨u0, hu0, rfl⟩ := Option.map_eq_some_iff.1 hj
      exact ih j u0 x hu0 hx hg
  | t hl _ ih =>
    intro g hg
    simp only [V.ren, ren_go]
    refine .t (by simpa using hl) fun j u x hj hx => ?_
    rw [List.getElem?_map] at hj
    obtain ⟨u0, hu0, rfl⟩ := Option.map_eq_some_iff.1 hj
    exact ih j u0 x hu0 hx hg
  | nil => intro g _; exact .nil
  | @se g' o a ht =>
    intro g hg
    subst hg
    cases o with
    | none => exact .se a fun _ h => by cases h
    | some r => exact .se a fun r' h => by cases h; exact ht r rfl
  | @s0 g' o ht =>
    intro g hg
    subst hg
    cases o with
    | none => exact .s0 fun _ h => by cases h
    | some r => exact .s0 fun r' h => by cases h; exact ht r rfl
  | @s g' o es b off cap size xs hn hm hp hs hx hc ht _ =>
    intro g hg
    subst hg
    cases o with
    | none => exact .s xs hn hm hp hs hx hc fun _ h => by cases h
    | some r => exact .s xs hn hm hp hs hx hc fun r' h => by cases h; exact ht r rfl
  | p h => intro g hg; subst hg; exact .p h
  | sb h => intro g hg; subst hg; exact .sb h
  | q xs h1 hx hc _ => intro g hg; subst hg; exact .q xs h1 hx hc
  | f h1 h2 _ _ ih1 ih2 =>
    intro g hg
    simp only [V.ren, ren_go]
    refine .f (by simpa using h1) (by simpa using h2) (fun j u x hj hx => ?_) fun j u x hj hx => ?_
    · rw [List.getElem?_map] at hj
      obtain ⟨u0, hu0, rfl⟩ := Option.map_eq_some_iff.1 hj
      exact ih1 j u0 x hu0 hx hg
    · rw [List.getElem?_map] at hj
      obtain ⟨u0, hu0, rfl⟩ := Option.map_eq_some_iff.1 hj
      exact ih2 j u0 x hu0 hx hg
  | i _ ih => intro g hg; exact .i (ih hg)
  | w h => intro g hg; subst hg; exact .w h
  | pw h => intro g hg; subst hg; exact .pw h
  | mp h => intro g hg; subst hg; exact .mp h
  | y h => intro g hg; subst hg; exact .y h
theorem rep_pull {w : World} (ρ : Pm) {g : Gh} {v : V} {x : Value} (h : Rep w g (v.ren ρ.f) x) : Rep w (g.pull ρ.f) v x := by
  have := rep_ren (ρ := ρ.g) h (g := g.pull ρ.f) (pull_inv' ρ g).symm
  rwa [ren_inv] at this
theorem fp_pull {ρ : Nat → Nat} {g : Gh} {i b o : Nat} {m : M} : fp (g.pull ρ) i m b o ↔ fp g (ρ i) (m.ren ρ) b o := by
  cases m <;> simp only [fp, M.ren, Gh.pull, List.length_map]
theorem obj_pull {w : World} (ρ : Pm) {g : Gh} {i : Nat} {m : M} (h : ObjAt g w (ρ.f i) (m.ren ρ.f)) : ObjAt (g.pull ρ.f) w i m := by
  cases m with
  | b cs =>
    cases h with
    | b hg hb h =>
      refine .b hg hb ⟨fun u hu => ?_, fun j u hj => ?_⟩
      · have := h.one _ (List.mem_map_of_mem hu); rwa [ren_one] at this
      · obtain ⟨a1, a2, x, a3, a4⟩ := h.at_ j (u.ren ρ.f) (by rw [List.getElem?_map, hj]; rfl)
        exact ⟨a1, a2, x, a3, rep_pull ρ a4⟩
  | r => cases h with | r hg h => exact .r hg ⟨h.pos, h.own, h.free⟩
  | w => cases h with | w hg h => exact .w hg ⟨h.pos, h.cells, h.own, h.free⟩
  | m => cases h with | m hg h => exact .m hg ⟨h.own, h.free⟩
  | o => cases h with | o hg h hS => exact .o hg h hS
  | x => exact .x
theorem relM_pull {w : World} (ρ : Pm) {F : Fr0} {g : Gh} {mem : Mem} (h : RelM F g (Mem.ren ρ.f mem) w) : RelM (F.pull ρ.f) (g.pull ρ.f) mem w := by
  have hag : ∀ i m, aget mem i = some m → aget (Mem.ren ρ.f mem) (ρ.f i) = some (m.ren ρ.f) := fun i m hi => by rw [aget_ren, hi]; rfl
  refine ⟨fun i m hi => obj_pull ρ (h.ob _ _ (hag i m hi)), fun i m b o hi hp => h.wr _ _ b o (hag i m hi) (fp_pull.1 hp), fun i j m n b o hij hi hj hp hq => h.dj _ _ _ _ b o (fun e => hij (ρ.inj e)) (hag i m hi) (hag j n hj) (fp_pull.1 hp) (fp_pull.1 hq), fun i hi => h.nbx (ρ.f i) (by rw [aget_ren, hi]; rfl), fun i hi => h.nrw (ρ.f i) (by rw [aget_ren, hi]; rfl), h.fut,
    ⟨fun i z hz => h.loc.bx _ z hz, fun i a l c hr => h.loc.rw _ a l c hr⟩⟩
theorem lent_pull {w : World} (ρ : Pm) {g : Gh} {mi : Mem} : (lentF g (Mem.ren ρ.f mi) w).pull ρ.f = lentF (g.pull ρ.f) mi w := by
  have : (lentF g (Mem.ren ρ.f mi) w).B = (lentF (g.pull ρ.f) mi w).B := by
    funext b o
    apply propext
    constructor
    · rintro ⟨i, m, hi, hp⟩
      have h1 : i = ρ.f (ρ.g i) := (ρ.fg i).symm
      rw [h1, aget_ren] at hi
      obtain ⟨m0, h2, rfl⟩ := Option.map_eq_some_iff.1 hi
      exact ⟨ρ.g i, m0, h2, fp_pull.2 (by rw [ρ.fg]; exact hp)⟩
    · rintro ⟨i, m, hi, hp⟩
      exact ⟨ρ.f i, m.ren ρ.f, by rw [aget_ren, hi]; rfl, fp_pull.1 hp⟩
  unfold Fr0.pull
  rw [this]
  rfl
def Out.ren (ρ : Nat → Nat) : Out → Out
  | .ret v => .ret (v.ren ρ)
  | .pan v => .pan (v.ren ρ)
theorem LM.ren {P : Program} {f : Nat} {args : List V} {mi : Mem} {R : Out → Mem → Prop} (h : LM P f args mi R) (ρ : Pm) : LM P f (args.map (V.ren ρ.f)) (Mem.ren ρ.f mi) fun o m => ∃ o' m', R o' m' ∧ o = o'.ren ρ.f ∧ m = Mem.ren ρ.f m' := by
  refine ⟨h.ok, fun g w vals hm hl hr => ?_⟩
  have h1 := relM_pull ρ hm
  rw [lent_pull] at h1
  refine Calls.mono (h.go (g.pull ρ.f) w vals h1 (by simpa using hl) fun j u x hj hx => rep_pull ρ (hr j _ x (by rw [List.getElem?_map, hj]; rfl) hx)) ?_
  rintro e w' ⟨o, mo, g0, hR, he, hm', hk, hat⟩
  have hF : (lentF (g.pull ρ.f) mi w).pull ρ.g = lentF g (Mem.ren ρ.f mi) w := by
    rw [← lent_pull]
    simp [Fr0.pull, ρ.fg]
  have hm2 : RelM (lentF g (Mem.ren ρ.f mi) w) (g0.pull ρ.g) (Mem.ren ρ.f mo) w' := by
    have := relM_pull ρ.inv (F := lentF (g.pull ρ.f) mi w) (g := g0) (mem := Mem.ren ρ.f mo) (w := w') (by
      have e : Mem.ren ρ.inv.f (Mem.ren ρ.f mo) = mo := memren_inv ρ mo
      rw [e]; exact hm')
    have e2 : (lentF (g.pull ρ.f) mi w).pull ρ.inv.f = lentF g (Mem.ren ρ.f mi) w := hF
    rw [e2] at this
    exact this
  have hB : (lentF (g.pull ρ.f) mi w).B = (lentF g (Mem.ren ρ.f mi) w).B := by rw [← hF]; rfl
  refine ⟨o.ren ρ.f, Mem.ren ρ.f mo, g0.pull ρ.g, ⟨o, mo, hR, rfl, rfl⟩, ⟨he.size, he.st, fun i z hz => he.bx (ρ.g i) z (by simpa [Gh.pull, ρ.fg] using hz), fun r a l c hr => he.rw (ρ.g r) a l c (by simpa [Gh.pull, ρ.fg] using hr)⟩, hm2,
    ⟨hk.os, hk.tape, hk.output, hk.size, by rw [← hB]; exact hk.blk, by rw [← hB]; exact hk.cell, by rw [← hB]; exact hk.S1, hk.S2, hk.cellS⟩, ?_⟩
  cases o with
  | ret v => obtain ⟨x, e1, e2⟩ := hat; exact ⟨x, e1, rep_ren e2 (pull_inv ρ g0).symm⟩
  | pan v => obtain ⟨x, e1, e2⟩ := hat; exact ⟨x, e1, rep_ren e2 (pull_inv ρ g0).symm⟩
/-- A contract at given numbers is one at any numbers. -/
theorem LM.gen {P : Program} {f : Nat} {args args' : List V} {mi mi' mo mo' : Mem} {o o' : Out} (ks is : List Nat) (hk : ks.Nodup) (hi : is.Nodup) (hl : ks.length = is.length) (h : LM P f args mi fun q m => q = o ∧ m = mo)
    (he : ∀ ρ : Pm, ks.map ρ.f = is → args.map (V.ren ρ.f) = args' ∧ Mem.ren ρ.f mi = mi' ∧ o.ren ρ.f = o' ∧ Mem.ren ρ.f mo = mo') : LM P f args' mi' fun q m => q = o' ∧ m = mo' := by
  obtain ⟨ρ, hρ⟩ := exists_pm ks is hk hi hl
  obtain ⟨e1, e2, e3, e4⟩ := he ρ hρ
  have := h.ren ρ
  rw [e1, e2] at this
  exact this.mono fun q m ⟨o1, m1, ⟨h1, h2⟩, h3, h4⟩ => ⟨by rw [h3, h1, e3], by rw [h4, h2, e4]⟩
theorem ren_k {ρ : Nat → Nat} {v : Value} : (V.k v).ren ρ = .k v := rfl
theorem ren_ks {ρ : Nat → Nat} {cs : List V} (h : ∀ u ∈ cs, ∃ x, u = .k x) : cs.map (V.ren ρ) = cs := by
  refine (List.map_congr_left fun u hu => ?_).trans (List.map_id cs)
  obtain ⟨x, rfl⟩ := h u hu
  rfl
end Lf
end Go.Proofs.Ytgeccggkdgpkiaa

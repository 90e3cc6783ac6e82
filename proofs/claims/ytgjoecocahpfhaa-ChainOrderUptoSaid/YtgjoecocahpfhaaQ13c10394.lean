/- A part of the proof: texts joined. -/
import Derived.Test.YtgjoecocahpfhaaQ12000539
namespace Go.Proofs.Ytgjoecocahpfhaa
open Go.RowKit Rg
set_option maxRecDepth 100000
namespace Lf
open Pk
namespace Cm
open Sq
def sgH (f : Hdr → List UInt8) : Ch.Sg Hdr (List UInt8) := ⟨Hdr.number, Hdr.parent, f⟩
section
variable (f : Hdr → List UInt8) (all : List Hdr)
abbrev at' (i : Nat) : Hdr := all.getD i default
def stA (st : RT × ET) (i : Nat) : RT × ET :=
  if (at' all i).number = 0 then st else
  match st.2.lookup ((at' all i).parent, (at' all i).number - 1) with
  | none => st
  | some p => (st.1 ++ [(i, p)], match st.2.lookup (f (at' all i), (at' all i).number) with
    | none => st.2 ++ [((f (at' all i), (at' all i).number), i)]
    | some q => if i < q then st.2.set (idx st.2 (f (at' all i), (at' all i).number)) ((f (at' all i), (at' all i).number), i) else st.2)
def stA0 : RT × ET := ([(0, 0)], [((f (at' all 0), (at' all 0).number), 0)])
structure Good (pre : List Nat) (st : RT × ET) : Prop where
  o1 : Once st.1
  o2 : Once st.2
  r : ∀ x ∈ st.1, (x.1 = 0 ∨ x.1 ∈ pre) ∧ x.1 < all.length ∧ x.2 < all.length
  e : ∀ x ∈ st.2, LinkOk x.1 ∧ x.2 < all.length
structure RelA (st : RT × ET) (s : Ch.St (List UInt8)) : Prop where
  r : ∀ i, s.R i = st.1.lookup i
  e : ∀ k n, s.F k n = st.2.lookup (k, n)
variable {f} {all}
theorem once_snoc {α : Type} [BEq α] [LawfulBEq α] {R : List (α × Nat)} {k : α} {p : Nat} (h : Once R) (hn : R.lookup k = none) : Once (R ++ [(k, p)]) := by
  unfold Once at h ⊢
  rw [List.map_append, List.nodup_append]
  refine ⟨h, by simp, fun a ha b hb => ?_⟩
  simp only [List.map_cons, List.map_nil, List.mem_singleton] at hb
  subst hb
  obtain ⟨x, hx, rfl⟩ := List.mem_map.1 ha
  exact look_none.1 hn x hx
theorem lookup_snoc {α : Type} [BEq α] [LawfulBEq α] [DecidableEq α] {k : α} {p : Nat} {R : List (α × Nat)} (hn : R.lookup k = none) (n : α) : (R ++ [(k, p)]).lookup n = if n = k then some p else R.lookup n := by
  rw [List.lookup_append]
  by_cases h : n = k
  · subst h
    rw [hn, if_pos rfl]
    simp
  · rw [if_neg h]
    have h1 : (n == k) = false := by simpa using h
    simp [List.lookup_cons, h1]
theorem set_fst {α : Type} {E : List (α × Nat)} {s : Nat} {k : α} {q i : Nat} (h : E[s]? = some (k, q)) : (E.set s (k, i)).map Prod.fst = E.map Prod.fst := by
  rw [List.map_set]
  obtain ⟨h1, h2⟩ := List.getElem?_eq_some_iff.1 h
  refine List.ext_getElem (by simp) fun j hj1 hj2 => ?_
  rw [List.getElem_set]
  split
  · rename_i e
    subst e
    rw [List.getElem_map, h2]
  · rfl
theorem lookup_set {E : ET} {k : LinkT} {q i : Nat} (h : Once E) (hq : E.lookup k = some q) (n : LinkT) : (E.set (idx E k) (k, i)).lookup n = if n = k then some i else E.lookup n := by
  have h1 := idx_at h hq
  have hO : Once (E.set (idx E k) (k, i)) := by
    unfold Once
    rw [set_fst h1]
    exact h
  obtain ⟨hl, hv⟩ := List.getElem?_eq_some_iff.1 h1
  by_cases e : n = k
  · subst e
    rw [if_pos rfl]
    refine hO.eq ?_
    exact List.mem_of_getElem? (i := idx E n) (by rw [List.getElem?_set]; simp [hl])
  · rw [if_neg e]
    cases hE : E.lookup n with
    | none =>
      refine look_none.2 fun x hx => ?_
      rcases List.mem_or_eq_of_mem_set hx with hx | rfl
      · exact look_none.1 hE x hx
      · exact fun e2 => e e2.symm
    | some v =>
      refine hO.eq ?_
      have hm := look_some hE
      obtain ⟨j, hj, hj2⟩ := List.getElem_of_mem hm
      have hne : idx E k ≠ j := fun e2 => by
        subst e2
        rw [hv] at hj2
        exact e (congrArg Prod.fst hj2).symm
      exact List.mem_of_getElem? (i := j) (by rw [List.getElem?_set_ne hne, List.getElem?_eq_getElem hj, hj2])
theorem stA0_good (hn : 0 < all.length) (hk : LinkOk (f (at' all 0), (at' all 0).number)) : Good all [] (stA0 f all) := by
  refine ⟨by simp [Once, stA0], by simp [Once, stA0], fun x hx => ?_, fun x hx => ?_⟩
  · simp only [stA0, List.mem_singleton] at hx
    subst hx
    exact ⟨.inl rfl, hn, hn⟩
  · simp only [stA0, List.mem_singleton] at hx
    subst hx
    exact ⟨hk, hn⟩
theorem stA0_rel : RelA (stA0 f all) (Ch.St.start (sgH f) all) := by
  refine ⟨fun i => ?_, fun k n => ?_⟩
  · simp only [Ch.St.start, stA0, List.lookup_cons, List.lookup_nil]
    by_cases h : i = 0
    · subst h; simp
    · have h1 : (i == 0) = false := by simpa using h
      rw [if_neg h]
      simp only [h1]
  · show (if k = f (at' all 0) ∧ n = (at' all 0).number then some 0 else none) = _
    simp only [stA0, List.lookup_cons, List.lookup_nil]
    by_cases h : k = f (at' all 0) ∧ n = (at' all 0).number
    · obtain ⟨h1, h2⟩ := h
      subst h1 h2
      simp
    · have h1 : ((k, n) == (f (at' all 0), (at' all 0).number)) = false := by
        rw [beq_eq_false_iff_ne]
        exact fun e => h ⟨congrArg Prod.fst e, congrArg Prod.snd e⟩
      rw [if_neg h]
      simp only [h1]
theorem stA_step {pre : List Nat} {st : RT × ET} {s : Ch.St (List UInt8)} {i : Nat} (g : Good all pre st) (r : RelA st s) (hi : i < all.length) (h0 : i ≠ 0) (hp : i ∉ pre) (hk : LinkOk (f (at' all i), (at' all i).number)) :
    Good all (pre ++ [i]) (stA f all st i) ∧ RelA (stA f all st i) (s.step (sgH f) all i) := by
  have gk : Good all (pre ++ [i]) st := ⟨g.o1, g.o2, fun x hx => ⟨(g.r x hx).1.imp id fun h => List.mem_append_left _ h, (g.r x hx).2⟩, g.e⟩
  unfold stA Ch.St.step
  show Good all (pre ++ [i]) _ ∧ RelA _ (if (at' all i).number = 0 then s else match s.F (at' all i).parent ((at' all i).number - 1) with
    | none => s
    | some p => ⟨fun j => if j = i then some p else s.R j, match s.F (f (at' all i)) (at' all i).number with
      | none => fun k n => if k = f (at' all i) ∧ n = (at' all i).number then some i else s.F k n
      | some q => if i < q then fun k n => if k = f (at' all i) ∧ n = (at' all i).number then some i else s.F k n else s.F⟩)
  by_cases hz : (at' all i).number = 0
  · rw [if_pos hz, if_pos hz]
    exact ⟨gk, r⟩
  · rw [if_neg hz, if_neg hz, r.e]
    cases hF : st.2.lookup ((at' all i).parent, (at' all i).number - 1) with
    | none => exact ⟨gk, r⟩
    | some p =>
      have hpl : p < all.length := (g.e _ (look_some hF)).2
      have hno : st.1.lookup i = none := look_none.2 fun x hx e => by
        rcases (g.r x hx).1 with h | h
        · exact h0 (e ▸ h)
        · exact hp (e ▸ h)
      have hr1 : ∀ j, (fun j => if j = i then some p else s.R j) j = (st.1 ++ [(i, p)]).lookup j := fun j => by
        rw [lookup_snoc hno, ← r.r]
      have g1 : ∀ x ∈ st.1 ++ [(i, p)], (x.1 = 0 ∨ x.1 ∈ pre ++ [i]) ∧ x.1 < all.length ∧ x.2 < all.length := fun x hx => by
        rcases List.mem_append.1 hx with hx | hx
        · exact gk.r x hx
        · simp only [List.mem_singleton] at hx
          subst hx
          exact ⟨.inr (by simp), hi, hpl⟩
      have o1 := once_snoc (p := p) g.o1 hno
      rw [r.e]
      have hand : ∀ k n, (k = f (at' all i) ∧ n = (at' all i).number) ↔ ((k, n) = (f (at' all i), (at' all i).number)) := fun k n => by rw [Prod.mk.injEq]
      cases hE : st.2.lookup (f (at' all i), (at' all i).number) with
      | none =>
        refine ⟨⟨o1, once_snoc g.o2 hE, g1, fun x hx => ?_⟩, ⟨hr1, fun k n => ?_⟩⟩
        · rcases List.mem_append.1 hx with hx | hx
          · exact g.e x hx
          · simp only [List.mem_singleton] at hx
            subst hx
            exact ⟨hk, hi⟩
        · show (if k = f (at' all i) ∧ n = (at' all i).number then some i else s.F k n) = (st.2 ++ [_]).lookup (k, n)
          rw [lookup_snoc hE, ← r.e]
          simp only [hand]
      | some q =>
        by_cases hq : i < q
        · simp only [if_pos hq]
          refine ⟨⟨o1, ?_, g1, fun x hx => ?_⟩, ⟨hr1, fun k n => ?_⟩⟩
          · show Once (st.2.set _ _)
            unfold Once
            rw [set_fst (idx_at g.o2 hE)]
            exact g.o2
          · rcases List.mem_or_eq_of_mem_set hx with hx | rfl
            · exact g.e x hx
            · exact ⟨hk, hi⟩
          · show (if k = f (at' all i) ∧ n = (at' all i).number then some i else s.F k n) = (st.2.set _ _).lookup (k, n)
            rw [lookup_set g.o2 hE, ← r.e]
            simp only [hand]
        · simp only [if_neg hq]
          exact ⟨⟨o1, g.o2, g1, g.e⟩, ⟨hr1, fun k n => r.e k n⟩⟩
variable (f) (all)
def runA (o : List Nat) (st : RT × ET) : RT × ET := o.foldl (stA f all) st
structure J (o : List Nat) (t : Nat) (R : RT) (E : ET) : Prop where
  le : t ≤ o.length
  eq : runA f all (o.take t) (stA0 f all) = (R, E)
  good : Good all (o.take t) (R, E)
  rel : RelA (R, E) ((o.take t).foldl (Ch.St.step (sgH f) all) (Ch.St.start (sgH f) all))
variable {f} {all}
theorem J_start {o : List Nat} (hn : 0 < all.length) (hk : LinkOk (f (at' all 0), (at' all 0).number)) : J f all o 0 [(0, 0)] [((f (at' all 0), (at' all 0).number), 0)] := ⟨Nat.zero_le _, rfl, stA0_good hn hk, stA0_rel⟩
theorem J_step {o : List Nat} {t : Nat} {R : RT} {E : ET} {S : RT × ET} (h : J f all o t R E) (ht : t < o.length) (ho : ∀ x ∈ o, 1 ≤ x ∧ x < all.length) (hd : o.Nodup) (hk : LinkOk (f (at' all (o.getD t default)), (at' all (o.getD t default)).number)) (hS : stA f all (R, E) (o.getD t default) = S) : J f all o (t + 1) S.1 S.2 := by
  have hg : o.getD t default = o[t] := by rw [List.getD_eq_getElem?_getD, List.getElem?_eq_getElem ht, Option.getD_some]
  have hm : o.getD t default ∈ o := by rw [hg]; exact List.getElem_mem ht
  have htk : o.take (t + 1) = o.take t ++ [o.getD t default] := by rw [List.take_succ_eq_append_getElem ht, hg]
  have hni : o.getD t default ∉ o.take t := fun hx => by
    obtain ⟨j, hj, e⟩ := List.getElem_of_mem hx
    rw [List.getElem_take, hg] at e
    rw [List.length_take] at hj
    exact List.pairwise_iff_getElem.1 (List.nodup_iff_pairwise_ne.1 hd) j t (by omega) ht (by omega) e
  have hb := ho _ hm
  obtain ⟨s1, s2⟩ := stA_step (f := f) h.good h.rel hb.2 (by omega) hni hk
  rw [hS] at s1 s2
  refine ⟨ht, ?_, ?_, ?_⟩
  · have := h.eq
    unfold runA at this ⊢
    rw [htk, List.foldl_append, this]
    exact hS
  · rw [htk]; exact s1
  · rw [htk, List.foldl_append]; exact s2
end
end Cm
end Lf
end Go.Proofs.Ytgjoecocahpfhaa

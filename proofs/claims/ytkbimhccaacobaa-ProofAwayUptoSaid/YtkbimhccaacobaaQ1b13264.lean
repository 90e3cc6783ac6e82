/- A part of the proof: texts joined. -/
import Derived.Test.YtkbimhccaacobaaProg
namespace Go.Proofs.Ytkbimhccaacobaa
set_option maxRecDepth 100000
namespace Tr
abbrev Pa := List (Fin 16)
inductive Nd where
  | no
  | leaf (p : Pa) (v : List UInt8)
  | road (p : Pa) (k : Nd)
  | fork (ks : Fin 16 → Nd) (v : List UInt8)
def rest : Pa → Pa → Option Pa
  | [], q => some q
  | _ :: _, [] => none
  | x :: p, y :: q => if x = y then rest p q else none
theorem rest_app : ∀ (p q : Pa), rest p (p ++ q) = some q
  | [], _ => rfl
  | x :: p, q => by simp only [List.cons_append, rest, if_true, rest_app p q]
theorem rest_some : ∀ {p q r : Pa}, rest p q = some r → q = p ++ r
  | [], q, r, h => by
    cases h
    rfl
  | x :: p, [], r, h => by cases h
  | x :: p, y :: q, r, h => by
    simp only [rest] at h
    split at h
    · rename_i e
      subst e
      rw [rest_some h, List.cons_append]
    · cases h
theorem rest_none {p q : Pa} (h : rest p q = none) (r : Pa) : q ≠ p ++ r := fun e => by
  subst e
  rw [rest_app] at h
  cases h
def get : Nd → Pa → List UInt8
  | .no, _ => []
  | .leaf p v, q => if p = q then v else []
  | .road p k, q => match rest p q with
    | some r => get k r
    | none => []
  | .fork _ v, [] => v
  | .fork ks _, x :: q => get (ks x) q
def isFork : Nd → Bool
  | .fork _ _ => true
  | _ => false
def Two (ks : Fin 16 → Nd) (v : List UInt8) : Prop := (v ≠ [] ∧ ∃ i, ks i ≠ .no) ∨ ∃ i j, i ≠ j ∧ ks i ≠ .no ∧ ks j ≠ .no
def ends (d : Nat) : Prop := d % 2 = 0 ∧ d ≤ 64
def Right : Nd → Nat → Prop
  | .no, _ => True
  | .leaf p v, d => ends (d + p.length) ∧ v ≠ [] ∧ v.length ≤ 1024
  | .road p k, d => p ≠ [] ∧ isFork k = true ∧ Right k (d + p.length)
  | .fork ks v, d => v.length ≤ 1024 ∧ (v ≠ [] → ends d) ∧ (∀ i, Right (ks i) (d + 1)) ∧ Two ks v
theorem get_road (p : Pa) (k : Nd) (q : Pa) : get (.road p k) (p ++ q) = get k q := by
  simp only [get, rest_app]
theorem get_road_in {p : Pa} {k : Nd} {q : Pa} (h : get (.road p k) q ≠ []) : ∃ r, q = p ++ r ∧ get k r ≠ [] := by
  unfold get at h
  cases hr : rest p q with
  | none =>
    rw [hr] at h
    exact absurd rfl h
  | some r =>
    rw [hr] at h
    exact ⟨r, rest_some hr, h⟩
theorem has : ∀ {n : Nd} {d : Nat}, Right n d → n ≠ .no → ∃ q, get n q ≠ []
  | .no, _, _, h => absurd rfl h
  | .leaf p v, _, hr, _ => ⟨p, by unfold get; rw [if_pos rfl]; exact hr.2.1⟩
  | .road p k, _, hr, _ => by
    obtain ⟨q, hq⟩ := has hr.2.2 (fun e => by have := hr.2.1; rw [e] at this; cases this)
    exact ⟨p ++ q, by rw [get_road]; exact hq⟩
  | .fork ks v, _, hr, _ => by
    rcases hr.2.2.2 with ⟨h1, _⟩ | ⟨i, _, _, h1, _⟩
    · exact ⟨[], h1⟩
    · obtain ⟨q, hq⟩ := has (hr.2.2.1 i) h1
      exact ⟨i :: q, hq⟩
theorem fork_off {ks : Fin 16 → Nd} {v : List UInt8} {d : Nat} (hr : Right (.fork ks v) d) (x : Fin 16) : ∃ q, get (.fork ks v) q ≠ [] ∧ ∀ r, q ≠ x :: r := by
  have kid : ∀ i, ks i ≠ .no → i ≠ x → ∃ q, get (.fork ks v) q ≠ [] ∧ ∀ r, q ≠ x :: r := fun i h1 h2 => by
    obtain ⟨q, hq⟩ := has (hr.2.2.1 i) h1
    exact ⟨i :: q, hq, fun r e => h2 (List.cons.inj e).1⟩
  rcases hr.2.2.2 with ⟨h1, _⟩ | ⟨i, j, hij, h1, h2⟩
  · exact ⟨[], h1, fun r e => by cases e⟩
  · by_cases hx : i = x
    · exact kid j h2 fun e => hij (hx.trans e.symm)
    · exact kid i h1 hx
theorem fork_two {ks : Fin 16 → Nd} {v : List UInt8} {d : Nat} (hr : Right (.fork ks v) d) : ∃ q r, get (.fork ks v) q ≠ [] ∧ get (.fork ks v) r ≠ [] ∧ q ≠ r := by
  obtain ⟨q, hq⟩ := has hr (fun e => by cases e)
  cases q with
  | nil =>
    rcases hr.2.2.2 with ⟨_, i, h1⟩ | ⟨i, _, _, h1, _⟩
    · obtain ⟨r, h2⟩ := has (hr.2.2.1 i) h1
      exact ⟨[], i :: r, hq, h2, fun e => by cases e⟩
    · obtain ⟨r, h2⟩ := has (hr.2.2.1 i) h1
      exact ⟨[], i :: r, hq, h2, fun e => by cases e⟩
  | cons x q =>
    obtain ⟨r, h1, h2⟩ := fork_off hr x
    exact ⟨x :: q, r, hq, h1, fun e => h2 q e.symm⟩
theorem fork_is {k : Nd} (h : isFork k = true) : ∃ ks v, k = .fork ks v := by
  cases k with
  | fork ks v => exact ⟨ks, v, rfl⟩
  | _ => cases h
theorem road_two {p : Pa} {k : Nd} {d : Nat} (hr : Right (.road p k) d) : ∃ q r, get (.road p k) q ≠ [] ∧ get (.road p k) r ≠ [] ∧ q ≠ r := by
  obtain ⟨ks, v, rfl⟩ := fork_is hr.2.1
  obtain ⟨q, r, h1, h2, h3⟩ := fork_two hr.2.2
  exact ⟨p ++ q, p ++ r, by rw [get_road]; exact h1, by rw [get_road]; exact h2, fun e => h3 (List.append_cancel_left e)⟩
theorem leaf_one {p : Pa} {v : List UInt8} {q : Pa} (h : get (.leaf p v) q ≠ []) : q = p := by
  unfold get at h
  split at h
  · rename_i e
    exact e.symm
  · exact absurd rfl h
theorem road_path : ∀ {p p' : Pa} {k k' : Nd} {d d' : Nat}, Right (.road p k) d → Right (.road p' k') d' → (∀ q, get (.road p k) q = get (.road p' k') q) → ∃ r, p = p' ++ r := by
  intro p p' k k' d d' h h' hg
  have key : ∀ (p p' r : Pa) (x : Fin 16), p' = p ++ x :: r → ∀ (k k' : Nd) (d d' : Nat), Right (.road p k) d → Right (.road p' k') d' → (∀ q, get (.road p k) q = get (.road p' k') q) → False := by
    intro p p' r x e k k' d d' h h' hg
    obtain ⟨ks, v, rfl⟩ := fork_is h.2.1
    obtain ⟨q, h1, h2⟩ := fork_off h.2.2 x
    have h3 : get (.road p (.fork ks v)) (p ++ q) ≠ [] := by rw [get_road]; exact h1
    rw [hg] at h3
    obtain ⟨s, e2, _⟩ := get_road_in h3
    rw [e, List.append_assoc] at e2
    exact h2 _ (List.append_cancel_left e2)
  obtain ⟨q, hq⟩ := has h (fun e => by cases e)
  obtain ⟨r, e1, _⟩ := get_road_in hq
  rw [hg] at hq
  obtain ⟨r', e2, _⟩ := get_road_in hq
  rcases Nat.le_total p'.length p.length with hl | hl
  · exact ⟨p.drop p'.length, by
      have := congrArg (List.take p'.length) (e1.symm.trans e2)
      rw [List.take_append_of_le_length hl, List.take_left' rfl] at this
      conv => lhs; rw [← List.take_append_drop p'.length p, this]⟩
  · have e3 : p' = p ++ p'.drop p.length := by
      have := congrArg (List.take p.length) (e2.symm.trans e1)
      rw [List.take_append_of_le_length hl, List.take_left' rfl] at this
      conv => lhs; rw [← List.take_append_drop p.length p', this]
    cases hd : p'.drop p.length with
    | nil => exact ⟨[], by rw [hd] at e3; rw [e3]; simp⟩
    | cons x r => exact (key p p' r x (by rw [e3, hd]) k k' d d' h h' hg).elim
theorem ext : ∀ {a b : Nd} {d : Nat}, Right a d → Right b d → (∀ q, get a q = get b q) → a = b
  | .no, b, d, _, hb, hg => by
    apply Classical.byContradiction
    intro hne
    obtain ⟨q, hq⟩ := has hb fun e => hne e.symm
    exact hq (hg q).symm
  | .leaf p v, b, d, ha, hb, hg => by
    have two : ∀ q r, get b q ≠ [] → get b r ≠ [] → q = r := fun q r h1 h2 => by
      rw [← hg] at h1 h2
      rw [leaf_one h1, leaf_one h2]
    have hp : get (.leaf p v) p = v := by unfold get; rw [if_pos rfl]
    cases b with
    | no =>
      have h := hg p
      rw [hp] at h
      exact absurd h ha.2.1
    | leaf p' v' =>
      have h := hg p
      rw [hp] at h
      have h1 : get (.leaf p' v') p ≠ [] := by rw [← h]; exact ha.2.1
      obtain rfl := leaf_one h1
      unfold get at h
      rw [if_pos rfl] at h
      rw [h]
    | road p' k' =>
      obtain ⟨q, r, h1, h2, h3⟩ := road_two hb
      exact absurd (two q r h1 h2) h3
    | fork ks' v' =>
      obtain ⟨q, r, h1, h2, h3⟩ := fork_two hb
      exact absurd (two q r h1 h2) h3
  | .road p k, b, d, ha, hb, hg => by
    cases b with
    | no =>
      obtain ⟨q, hq⟩ := has ha (fun e => by cases e)
      exact absurd (hg q) hq
    | leaf p' v' =>
      obtain ⟨q, r, h1, h2, h3⟩ := road_two ha
      rw [hg] at h1 h2
      exact absurd ((leaf_one h1).trans (leaf_one h2).symm) h3
    | road p' k' =>
      obtain ⟨r, e1⟩ := road_path ha hb hg
      obtain ⟨r', e2⟩ := road_path hb ha fun q => (hg q).symm
      have hr : r = [] := by
        have h1 := congrArg List.length e1
        have h2 := congrArg List.length e2
        rw [List.length_append] at h1 h2
        exact List.eq_nil_of_length_eq_zero (by omega)
      rw [hr, List.append_nil] at e1
      subst e1
      have hk := ext ha.2.2 hb.2.2 fun q => by
        have := hg (p ++ q)
        rwa [get_road, get_road] at this
      rw [hk]
    | fork ks' v' =>
      exfalso
      cases p with
      | nil => exact ha.1 rfl
      | cons x p =>
        obtain ⟨q, h1, h2⟩ := fork_off hb x
        rw [← hg] at h1
        obtain ⟨r, e, _⟩ := get_road_in h1
        exact h2 _ e
  | .fork ks v, b, d, ha, hb, hg => by
    cases b with
    | no =>
      obtain ⟨q, hq⟩ := has ha (fun e => by cases e)
      exact absurd (hg q) hq
    | leaf p' v' =>
      obtain ⟨q, r, h1, h2, h3⟩ := fork_two ha
      rw [hg] at h1 h2
      exact absurd ((leaf_one h1).trans (leaf_one h2).symm) h3
    | road p' k' =>
      exfalso
      cases p' with
      | nil => exact hb.1 rfl
      | cons x p =>
        obtain ⟨q, h1, h2⟩ := fork_off ha x
        rw [hg] at h1
        obtain ⟨r, e, _⟩ := get_road_in h1
        exact h2 _ e
    | fork ks' v' =>
      have hv : v = v' := hg []
      have hk : ks = ks' := funext fun i => ext (ha.2.2.1 i) (hb.2.2.1 i) fun q => hg (i :: q)
      rw [hv, hk]
end Tr
set_option maxRecDepth 100000
namespace Tr
def isNo : Nd → Bool
  | .no => true
  | _ => false
theorem isNo_eq {n : Nd} : isNo n = true ↔ n = .no := by
  cases n <;> simp [isNo]
theorem isNo_ne {n : Nd} : isNo n = false ↔ n ≠ .no := by
  cases n <;> simp [isNo]
def behind : Pa → Nd → Nd
  | [], n => n
  | _ :: _, .no => .no
  | x :: p, .leaf q v => .leaf (x :: p ++ q) v
  | x :: p, .road q k => .road (x :: p ++ q) k
  | x :: p, .fork ks v => .road (x :: p) (.fork ks v)
theorem rest_two : ∀ (p p' q : Pa), rest (p ++ p') q = (rest p q).bind (rest p')
  | [], _, _ => rfl
  | x :: p, p', [] => rfl
  | x :: p, p', y :: q => by
    simp only [List.cons_append, rest]
    split
    · exact rest_two p p' q
    · rfl
theorem get_behind (p : Pa) (n : Nd) (q : Pa) : get (behind p n) q = match rest p q with
    | some r => get n r
    | none => [] := by
  cases p with
  | nil => rfl
  | cons x p =>
    cases n with
    | no =>
      simp only [behind, get] <;> cases rest (x :: p) q <;> rfl
    | leaf q' v =>
      simp only [behind, get]
      cases h : rest (x :: p) q with
      | none => rw [if_neg fun e => rest_none h q' e.symm]
      | some r =>
        have e := rest_some h
        subst e
        by_cases e : q' = r
        · subst e
          simp
        · rw [if_neg fun k => e (List.append_cancel_left k)]
          simp [e]
    | road q' k =>
      simp only [behind, get, rest_two]
      cases rest (x :: p) q with
      | none => rfl
      | some r => simp only [Option.bind_some]
    | fork ks v =>
      simp only [behind, get] <;> cases rest (x :: p) q <;> rfl
theorem right_behind {p : Pa} {n : Nd} {d : Nat} (h : Right n (d + p.length)) : Right (behind p n) d := by
  cases p with
  | nil => exact h
  | cons x p =>
    cases n with
    | no => trivial
    | leaf q v => exact ⟨by rw [List.length_append, ← Nat.add_assoc]; exact h.1, h.2⟩
    | road q k => exact ⟨by simp, h.2.1, by rw [List.length_append, ← Nat.add_assoc]; exact h.2.2⟩
    | fork ks v => exact ⟨by simp, rfl, h⟩
theorem behind_no {p : Pa} {n : Nd} (h : behind p n = .no) : n = .no := by
  cases p with
  | nil => exact h
  | cons x p => cases n <;> simp [behind] at h ⊢
def kidsOf (ks : Fin 16 → Nd) : List (Fin 16) := (List.finRange 16).filter fun i => !isNo (ks i)
theorem kids_mem {ks : Fin 16 → Nd} {i : Fin 16} : i ∈ kidsOf ks ↔ ks i ≠ .no := by
  unfold kidsOf
  rw [List.mem_filter, Bool.not_eq_true', isNo_ne]
  exact ⟨fun h => h.2, fun h => ⟨List.mem_finRange i, h⟩⟩
theorem kids_nodup (ks : Fin 16 → Nd) : (kidsOf ks).Nodup := List.Nodup.sublist List.filter_sublist (List.nodup_finRange 16)
def tidy (ks : Fin 16 → Nd) (v : List UInt8) : Nd :=
  match kidsOf ks with
  | [] => if v = [] then .no else .leaf [] v
  | [i] => if v = [] then behind [i] (ks i) else .fork ks v
  | _ :: _ :: _ => .fork ks v
theorem get_tidy (ks : Fin 16 → Nd) (v : List UInt8) (q : Pa) : get (tidy ks v) q = get (.fork ks v) q := by
  have hm := fun i => kids_mem (ks := ks) (i := i)
  unfold tidy
  cases h : kidsOf ks with
  | nil =>
    have h0 : ∀ i, ks i = .no := fun i => Classical.byContradiction fun k => by
      have := (hm i).2 k
      rw [h] at this
      cases this
    simp only
    cases q with
    | nil =>
      by_cases hv : v = []
      · rw [if_pos hv]; simp [get, hv]
      · rw [if_neg hv]; simp [get]
    | cons x q =>
      by_cases hv : v = []
      · rw [if_pos hv]; simp [get, h0 x]
      · rw [if_neg hv]; simp [get, h0 x]
  | cons i t =>
    cases t with
    | cons j t => rfl
    | nil =>
      simp only
      by_cases hv : v = []
      · rw [if_pos hv, get_behind]
        cases q with
        | nil => simp [rest, get, hv]
        | cons x q =>
          by_cases hx : i = x
          · subst hx
            simp [rest, get]
          · have h0 : ks x = .no := Classical.byContradiction fun k => by
              have := (hm x).2 k
              rw [h] at this
              exact hx (List.mem_singleton.1 this).symm
            simp [rest, get, hx, h0]
      · rw [if_neg hv]
theorem right_tidy {ks : Fin 16 → Nd} {v : List UInt8} {d : Nat} (hv : v.length ≤ 1024) (he : v ≠ [] → ends d) (hk : ∀ i, Right (ks i) (d + 1)) : Right (tidy ks v) d := by
  have hm := fun i => kids_mem (ks := ks) (i := i)
  have hn := kids_nodup ks
  unfold tidy
  cases h : kidsOf ks with
  | nil =>
    simp only
    by_cases h0 : v = []
    · rw [if_pos h0]; trivial
    · rw [if_neg h0]; exact ⟨he h0, h0, hv⟩
  | cons i t =>
    rw [h] at hn
    have hi := (hm i).1 (by rw [h]; simp)
    cases t with
    | nil =>
      simp only
      by_cases h0 : v = []
      · rw [if_pos h0]
        exact right_behind (p := [i]) (hk i)
      · rw [if_neg h0]
        exact ⟨hv, he, hk, .inl ⟨h0, i, hi⟩⟩
    | cons j t =>
      have hj := (hm j).1 (by rw [h]; simp)
      simp only
      refine ⟨hv, he, hk, .inr ⟨i, j, fun e => ?_, hi, hj⟩⟩
      subst e
      simp at hn
end Tr
set_option maxRecDepth 100000
namespace Tr
def setK (ks : Fin 16 → Nd) (x : Fin 16) (n : Nd) : Fin 16 → Nd := fun i => if i = x then n else ks i
def none16 : Fin 16 → Nd := fun _ => .no
def valOf : Nd → List UInt8
  | .leaf _ v => v
  | _ => []
def kids1 (pa : Pa) (a : Nd) : Fin 16 → Nd :=
  match pa with
  | [] => none16
  | x :: r => setK none16 x (behind r a)
def val1 (pa : Pa) (a : Nd) : List UInt8 :=
  match pa with
  | [] => valOf a
  | _ :: _ => []
def part (pre pa : Pa) (a : Nd) (q : Pa) (v : List UInt8) : Nd :=
  behind pre (match q with
    | [] => .fork (kids1 pa a) v
    | y :: s => .fork (setK (kids1 pa a) y (.leaf s v)) (val1 pa a))
theorem setK_at (ks : Fin 16 → Nd) (x : Fin 16) (n : Nd) : setK ks x n x = n := if_pos rfl
theorem setK_off (ks : Fin 16 → Nd) {x y : Fin 16} (n : Nd) (h : y ≠ x) : setK ks x n y = ks y := if_neg h
theorem get_behind_cons (x : Fin 16) (p : Pa) (n : Nd) (y : Fin 16) (q : Pa) : get (behind (x :: p) n) (y :: q) = if x = y then get (behind p n) q else [] := by
  rw [get_behind, get_behind]
  simp only [rest]
  by_cases h : x = y
  · rw [if_pos h, if_pos h]
  · rw [if_neg h, if_neg h]
theorem get_behind_nil (x : Fin 16) (p : Pa) (n : Nd) : get (behind (x :: p) n) [] = [] := by
  rw [get_behind]
  rfl
theorem get_kids1 (x : Fin 16) (r : Pa) (a : Nd) (z : Fin 16) (q : Pa) : get (kids1 (x :: r) a z) q = get (behind (x :: r) a) (z :: q) := by
  rw [get_behind_cons]
  show get (setK none16 x (behind r a) z) q = _
  by_cases h : x = z
  · subst h
    rw [setK_at, if_pos rfl]
  · rw [setK_off _ _ fun e => h e.symm, if_neg h]
    rfl
def Off (pa q : Pa) : Prop := (pa ≠ [] ∨ q ≠ []) ∧ ∀ x r s, ¬ (pa = x :: r ∧ q = x :: s)
theorem get_part {pre pa : Pa} {a : Nd} {q : Pa} {v : List UInt8} (ho : Off pa q) (ha : pa = [] → ∃ w, a = .leaf [] w) (t : Pa) : get (part pre pa a q v) t = match rest pre t with
    | some r => if r = q then v else get (behind pa a) r
    | none => [] := by
  unfold part
  rw [get_behind]
  cases rest pre t with
  | none => rfl
  | some r =>
    simp only
    cases q with
    | nil =>
      cases pa with
      | nil => exact absurd ho.1 (by simp)
      | cons x pr =>
        cases r with
        | nil => rw [if_pos rfl]; rfl
        | cons z r =>
          rw [if_neg (by simp)]
          exact get_kids1 x pr a z r
    | cons y s =>
      simp only
      cases r with
      | nil =>
        rw [if_neg (by simp)]
        cases pa with
        | nil =>
          obtain ⟨w, rfl⟩ := ha rfl
          simp [get, val1, valOf, behind]
        | cons x pr =>
          rw [get_behind_nil]
          rfl
      | cons z r =>
        show get (setK (kids1 pa a) y (.leaf s v) z) r = _
        by_cases hz : z = y
        · subst hz
          rw [setK_at]
          by_cases hs : r = s
          · subst hs
            rw [if_pos rfl]
            simp [get]
          · rw [if_neg fun e => hs (List.cons.inj e).2]
            have h1 : get (.leaf s v) r = [] := by
              unfold get
              rw [if_neg fun e => hs e.symm]
            rw [h1]
            cases pa with
            | nil =>
              obtain ⟨w, rfl⟩ := ha rfl
              simp [get, behind]
            | cons x pr =>
              rw [get_behind_cons, if_neg fun e => ho.2 x pr s ⟨rfl, by rw [e]⟩]
        · rw [setK_off _ _ hz, if_neg fun e => hz (List.cons.inj e).1]
          cases pa with
          | nil =>
            obtain ⟨w, rfl⟩ := ha rfl
            simp [get, behind, kids1, none16]
          | cons x pr => exact get_kids1 x pr a z r
def common : Pa → Pa → Nat
  | x :: p, y :: q => if x = y then common p q + 1 else 0
  | _, _ => 0
theorem common_spec : ∀ (a b : Pa), a = a.take (common a b) ++ a.drop (common a b) ∧ b = a.take (common a b) ++ b.drop (common a b) ∧ ∀ x r s, ¬ (a.drop (common a b) = x :: r ∧ b.drop (common a b) = x :: s)
  | [], b => ⟨rfl, by simp [common], fun x r s h => by simp at h⟩
  | x :: p, [] => ⟨by simp [common], by simp [common], fun y r s h => by simp at h⟩
  | x :: p, y :: q => by
    by_cases h : x = y
    · subst h
      obtain ⟨h1, h2, h3⟩ := common_spec p q
      have e : common (x :: p) (x :: q) = common p q + 1 := if_pos rfl
      rw [e]
      simp only [List.take_succ_cons, List.drop_succ_cons, List.cons_append]
      exact ⟨congrArg _ h1, congrArg _ h2, h3⟩
    · have e : common (x :: p) (y :: q) = 0 := if_neg h
      rw [e]
      refine ⟨by simp, by simp, fun z r s k => ?_⟩
      simp only [List.drop_zero, List.cons.injEq] at k
      exact h (k.1.1.trans k.2.1.symm)
theorem get_leaf (p : Pa) (v : List UInt8) (t : Pa) : get (.leaf p v) t = get (behind p (.leaf [] v)) t := by
  cases p with
  | nil => rfl
  | cons x p => simp [behind]
theorem behind_two (pre pa : Pa) (a : Nd) (t : Pa) : get (behind (pre ++ pa) a) t = match rest pre t with
    | some r => get (behind pa a) r
    | none => [] := by
  rw [get_behind, rest_two]
  cases rest pre t with
  | none => rfl
  | some r => simp only [Option.bind_some]; rw [get_behind]
def put : Nd → Pa → List UInt8 → Nd
  | .no, p, v => if v = [] then .no else .leaf p v
  | .leaf p0 v0, p, v => if p0 = p then (if v = [] then .no else .leaf p v) else if v = [] then .leaf p0 v0 else part (p0.take (common p0 p)) (p0.drop (common p0 p)) (.leaf [] v0) (p.drop (common p0 p)) v
  | .road p0 k, p, v => match rest p0 p with
    | some r => behind p0 (put k r v)
    | none => if v = [] then .road p0 k else part (p0.take (common p0 p)) (p0.drop (common p0 p)) k (p.drop (common p0 p)) v
  | .fork ks _, [], v => tidy ks v
  | .fork ks v0, x :: p, v => tidy (setK ks x (put (ks x) p v)) v0
theorem get_parted {p0 p : Pa} {a : Nd} {v : List UInt8} (hne : p0 ≠ p) (ha : p0.drop (common p0 p) = [] → ∃ w, a = .leaf [] w) (t : Pa) : get (part (p0.take (common p0 p)) (p0.drop (common p0 p)) a (p.drop (common p0 p)) v) t = if t = p then v else get (behind p0 a) t := by
  obtain ⟨h1, h2, h3⟩ := common_spec p0 p
  have ho : Off (p0.drop (common p0 p)) (p.drop (common p0 p)) := ⟨by
    by_cases e : p0.drop (common p0 p) = []
    · right
      intro e2
      rw [e] at h1
      rw [e2] at h2
      exact hne (h1.trans h2.symm)
    · exact .inl e, h3⟩
  rw [get_part ho ha]
  conv => rhs; rw [h1, behind_two]
  cases hr : rest (p0.take (common p0 p)) t with
  | none => rw [if_neg fun e => rest_none hr _ (e.trans h2)]
  | some r =>
    have e := rest_some hr
    simp only
    by_cases hq : r = p.drop (common p0 p)
    · rw [if_pos hq, if_pos (by rw [e, hq]; exact h2.symm)]
    · rw [if_neg hq, if_neg fun k => hq (List.append_cancel_left (e.symm.trans (k.trans h2)))]
theorem get_put : ∀ (n : Nd) (p : Pa) (v : List UInt8) (q : Pa), get (put n p v) q = if q = p then v else get n q
  | .no, p, v, q => by
    unfold put
    by_cases hv : v = []
    · rw [if_pos hv]; simp [get, hv]
    · rw [if_neg hv]
      by_cases h : q = p
      · subst h; simp [get]
      · have h' : ¬ p = q := fun e => h e.symm
        simp [get, h, h']
  | .leaf p0 v0, p, v, q => by
    unfold put
    by_cases h0 : p0 = p
    · subst h0
      rw [if_pos rfl]
      by_cases hv : v = []
      · rw [if_pos hv]
        by_cases h : q = p0
        · subst h; simp [get, hv]
        · have h' : ¬ p0 = q := fun e => h e.symm
          simp [get, h, h']
      · rw [if_neg hv]
        by_cases h : q = p0
        · subst h; simp [get]
        · have h' : ¬ p0 = q := fun e => h e.symm
          simp [get, h, h']
    · rw [if_neg h0]
      by_cases hv : v = []
      · rw [if_pos hv]
        by_cases h : q = p
        · subst h; simp [get, h0, hv]
        · rw [if_neg h]
      · rw [if_neg hv, get_parted h0 (fun _ => ⟨_, rfl⟩), get_leaf]
  | .road p0 k, p, v, q => by
    unfold put
    cases hr : rest p0 p with
    | some r =>
      have e := rest_some hr
      simp only
      rw [get_behind]
      cases hq : rest p0 q with
      | none =>
        rw [if_neg fun k => rest_none hq r (k.trans e)]
        simp [get, hq]
      | some r' =>
        have e' := rest_some hq
        simp only
        rw [get_put k r v r']
        by_cases h : r' = r
        · subst h; rw [if_pos rfl, if_pos (e'.trans e.symm)]
        · rw [if_neg h, if_neg fun k => h (by rw [e', e] at k; exact List.append_cancel_left k)]
          simp [get, hq]
    | none =>
      simp only
      have h0 : p0 ≠ p := fun k => rest_none hr [] (by rw [List.append_nil]; exact k.symm)
      by_cases hv : v = []
      · rw [if_pos hv]
        by_cases h : q = p
        · subst h; simp [get, hr, hv]
        · rw [if_neg h]
      · rw [if_neg hv, get_parted h0 (fun k0 => by
          exfalso
          obtain ⟨h1, h2, _⟩ := common_spec p0 p
          rw [k0, List.append_nil] at h1
          rw [← h1] at h2
          exact rest_none hr _ h2), get_behind]
        simp only [get] <;> cases rest p0 q <;> rfl
  | .fork ks v0, [], v, q => by
    unfold put
    rw [get_tidy]
    cases q with
    | nil => simp [get]
    | cons x q => simp [get]
  | .fork ks v0, x :: p, v, q => by
    unfold put
    rw [get_tidy]
    cases q with
    | nil => simp [get]
    | cons y q =>
      show get (setK ks x (put (ks x) p v) y) q = _
      by_cases h : y = x
      · subst h
        rw [setK_at, get_put (ks y) p v q]
        simp [get]
      · rw [setK_off _ _ h, if_neg fun e => h (List.cons.inj e).1]
        rfl
end Tr
set_option maxRecDepth 100000
namespace Tr
theorem off_common {p0 p : Pa} (hne : p0 ≠ p) : Off (p0.drop (common p0 p)) (p.drop (common p0 p)) := by
  obtain ⟨h1, h2, h3⟩ := common_spec p0 p
  refine ⟨?_, h3⟩
  by_cases e : p0.drop (common p0 p) = []
  · right
    intro e2
    rw [e] at h1
    rw [e2] at h2
    exact hne (h1.trans h2.symm)
  · exact .inl e
theorem right_part {pre pa : Pa} {a : Nd} {q : Pa} {v : List UInt8} {d : Nat} (ho : Off pa q) (ha : pa = [] → ∃ w, a = .leaf [] w) (hn : a ≠ .no) (hr : Right a (d + pre.length + pa.length)) (he : ends (d + pre.length + q.length)) (hv : v ≠ []) (hl : v.length ≤ 1024) : Right (part pre pa a q v) d := by
  unfold part
  refine right_behind ?_
  have hk : ∀ i, Right (kids1 pa a i) (d + pre.length + 1) := fun i => by
    cases pa with
    | nil => trivial
    | cons x pr =>
      show Right (setK none16 x (behind pr a) i) _
      by_cases hi : i = x
      · subst hi
        rw [setK_at]
        refine right_behind ?_
        rw [List.length_cons] at hr
        rw [show d + pre.length + 1 + pr.length = d + pre.length + (pr.length + 1) by omega]
        exact hr
      · rw [setK_off _ _ hi]
        trivial
  have hx : ∀ x pr, pa = x :: pr → kids1 pa a x ≠ .no := fun x pr e k => by
    subst e
    have k2 : setK none16 x (behind pr a) x = .no := k
    rw [setK_at] at k2
    exact hn (behind_no k2)
  cases q with
  | nil =>
    cases pa with
    | nil => exact absurd ho.1 (by simp)
    | cons x pr => exact ⟨hl, fun _ => he, hk, .inl ⟨hv, x, hx x pr rfl⟩⟩
  | cons y s =>
    have hy : Right (.leaf s v) (d + pre.length + 1) := ⟨by
      rw [List.length_cons] at he
      rw [show d + pre.length + 1 + s.length = d + pre.length + (s.length + 1) by omega]
      exact he, hv, hl⟩
    have hks : ∀ i, Right (setK (kids1 pa a) y (.leaf s v) i) (d + pre.length + 1) := fun i => by
      by_cases hi : i = y
      · subst hi
        rw [setK_at]
        exact hy
      · rw [setK_off _ _ hi]
        exact hk i
    have hyn : setK (kids1 pa a) y (.leaf s v) y ≠ .no := by
      rw [setK_at]
      intro e
      cases e
    cases pa with
    | nil =>
      obtain ⟨w, rfl⟩ := ha rfl
      exact ⟨hr.2.2, fun _ => hr.1, hks, .inl ⟨hr.2.1, y, hyn⟩⟩
    | cons x pr =>
      have hxy : x ≠ y := fun e => ho.2 x pr s ⟨rfl, by rw [e]⟩
      exact ⟨Nat.zero_le _, fun k => absurd rfl k, hks, .inr ⟨x, y, hxy, by rw [setK_off _ _ hxy]; exact hx x pr rfl, hyn⟩⟩
theorem right_put : ∀ (n : Nd) (p : Pa) (v : List UInt8) (d : Nat), Right n d → ends (d + p.length) → v.length ≤ 1024 → Right (put n p v) d
  | .no, p, v, d, _, he, hl => by
    unfold put
    by_cases hv : v = []
    · rw [if_pos hv]; trivial
    · rw [if_neg hv]; exact ⟨he, hv, hl⟩
  | .leaf p0 v0, p, v, d, hr, he, hl => by
    unfold put
    by_cases h0 : p0 = p
    · rw [if_pos h0]
      by_cases hv : v = []
      · rw [if_pos hv]; trivial
      · rw [if_neg hv]; exact ⟨he, hv, hl⟩
    · rw [if_neg h0]
      by_cases hv : v = []
      · rw [if_pos hv]; exact hr
      · rw [if_neg hv]
        obtain ⟨h1, h2, _⟩ := common_spec p0 p
        have l1 := congrArg List.length h1
        have l2 := congrArg List.length h2
        rw [List.length_append] at l1 l2
        refine right_part (off_common h0) (fun _ => ⟨_, rfl⟩) (fun e => by cases e) ⟨?_, hr.2⟩ ?_ hv hl
        · rw [List.length_nil, Nat.add_zero, Nat.add_assoc, ← l1]
          exact hr.1
        · rw [Nat.add_assoc, ← l2]
          exact he
  | .road p0 k, p, v, d, hr, he, hl => by
    unfold put
    cases hq : rest p0 p with
    | some r =>
      have e := rest_some hq
      simp only
      refine right_behind (right_put k r v _ hr.2.2 ?_ hl)
      rw [e, List.length_append, ← Nat.add_assoc] at he
      exact he
    | none =>
      simp only
      have h0 : p0 ≠ p := fun k => rest_none hq [] (by rw [List.append_nil]; exact k.symm)
      by_cases hv : v = []
      · rw [if_pos hv]; exact hr
      · rw [if_neg hv]
        obtain ⟨h1, h2, _⟩ := common_spec p0 p
        have l1 := congrArg List.length h1
        have l2 := congrArg List.length h2
        rw [List.length_append] at l1 l2
        refine right_part (off_common h0) (fun k0 => ?_) (fun e => ?_) ?_ ?_ hv hl
        · exfalso
          rw [k0, List.append_nil] at h1
          rw [← h1] at h2
          exact rest_none hq _ h2
        · have := hr.2.1
          rw [e] at this
          cases this
        · rw [Nat.add_assoc, ← l1]
          exact hr.2.2
        · rw [Nat.add_assoc, ← l2]
          exact he
  | .fork ks v0, [], v, d, hr, he, hl => by
    unfold put
    exact right_tidy hl (fun _ => he) hr.2.2.1
  | .fork ks v0, x :: p, v, d, hr, he, hl => by
    unfold put
    refine right_tidy hr.1 hr.2.1 fun i => ?_
    by_cases hi : i = x
    · subst hi
      rw [setK_at]
      refine right_put (ks i) p v (d + 1) (hr.2.2.1 i) ?_ hl
      rw [List.length_cons] at he
      rw [show d + 1 + p.length = d + (p.length + 1) by omega]
      exact he
    · rw [setK_off _ _ hi]
      exact hr.2.2.1 i
theorem put_comm {n : Nd} {p q : Pa} {v w : List UInt8} (hr : Right n 0) (hp : ends p.length) (hq : ends q.length) (hv : v.length ≤ 1024) (hw : w.length ≤ 1024) (hne : p ≠ q) : put (put n p v) q w = put (put n q w) p v := by
  refine ext (d := 0) (right_put _ _ _ _ (right_put _ _ _ _ hr (by rwa [Nat.zero_add]) hv) (by rwa [Nat.zero_add]) hw) (right_put _ _ _ _ (right_put _ _ _ _ hr (by rwa [Nat.zero_add]) hw) (by rwa [Nat.zero_add]) hv) fun t => ?_
  rw [get_put, get_put, get_put, get_put]
  by_cases h1 : t = q
  · subst h1
    rw [if_pos rfl, if_neg fun e => hne e.symm, if_pos rfl]
  · rw [if_neg h1, if_neg h1]
end Tr
set_option maxRecDepth 100000
namespace Tr
def pairs : Nd → Pa → List (Pa × List UInt8)
  | .no, _ => []
  | .leaf p v, pre => [(pre ++ p, v)]
  | .road p k, pre => pairs k (pre ++ p)
  | .fork ks v, pre => (if v = [] then [] else [(pre, v)]) ++ (List.finRange 16).flatMap fun i => pairs (ks i) (pre ++ [i])
def ofL (n : Nd) (l : List (Pa × List UInt8)) : Nd := l.foldl (fun n e => put n e.1 e.2) n
theorem right_ofL : ∀ (l : List (Pa × List UInt8)) (n : Nd), Right n 0 → (∀ e ∈ l, ends e.1.length ∧ e.2.length ≤ 1024) → Right (ofL n l) 0
  | [], _, h, _ => h
  | (p, v) :: l, n, h, hl => by
    have h1 := hl (p, v) (by simp)
    exact right_ofL l (put n p v) (right_put n p v 0 h (by rw [Nat.zero_add]; exact h1.1) h1.2) fun e he => hl e (List.mem_cons_of_mem _ he)
end Tr
set_option maxRecDepth 100000
namespace Tr
def hi4 (x : UInt8) : Fin 16 := ⟨x.toNat / 16, by have := x.toNat_lt; omega⟩
def lo4 (x : UInt8) : Fin 16 := ⟨x.toNat % 16, by omega⟩
def keyP : List UInt8 → Pa
  | [] => []
  | x :: l => hi4 x :: lo4 x :: keyP l
def keyB : Pa → List UInt8
  | a :: b :: p => UInt8.ofNat (a.val * 16 + b.val) :: keyB p
  | _ => []
theorem keyP_len : ∀ l, (keyP l).length = 2 * l.length
  | [] => rfl
  | x :: l => by simp only [keyP, List.length_cons, keyP_len l]; omega
theorem keyB_P : ∀ l, keyB (keyP l) = l
  | [] => rfl
  | x :: l => by
    have hx := x.toNat_lt
    simp only [keyP, keyB, keyB_P l]
    congr 1
    apply UInt8.toNat_inj.1
    simp only [UInt8.toNat_ofNat', hi4, lo4]
    omega
theorem keyP_B : ∀ {p : Pa}, p.length % 2 = 0 → keyP (keyB p) = p
  | [], _ => rfl
  | [_], h => by simp at h
  | a :: b :: p, h => by
    have ha := a.isLt
    have hb := b.isLt
    have ih := keyP_B (p := p) (by simp only [List.length_cons] at h; omega)
    simp only [keyB, keyP, ih]
    congr 1
    · apply Fin.ext
      simp only [hi4, UInt8.toNat_ofNat']
      omega
    · congr 1
      apply Fin.ext
      simp only [lo4, UInt8.toNat_ofNat']
      omega
theorem keyP_inj {a b : List UInt8} (h : keyP a = keyP b) : a = b := by rw [← keyB_P a, ← keyB_P b, h]
theorem keyP_ends {l : List UInt8} (h : l.length ≤ 32) : ends (keyP l).length := by
  rw [keyP_len]
  exact ⟨by omega, by omega⟩
end Tr
set_option maxRecDepth 100000
namespace Tr
inductive Rn where
  | mk (k : Int) (p v : List UInt8) (ks : List Rn)
  deriving Inhabited
mutual
def Rn.size : Rn → Nat
  | .mk _ p v ks => 1 + p.length + v.length + Rn.sizeL ks
def Rn.sizeL : List Rn → Nat
  | [] => 0
  | k :: r => k.size + 1 + Rn.sizeL r
end
def Rn.kind : Rn → Int
  | .mk k _ _ _ => k
def Rn.no : Rn := .mk 0 [] [] []
def halvesB (p : List UInt8) : Bool := p.all fun x => decide (x.toNat ≤ 15)
def endsB (d : Nat) : Bool := decide (d % 2 = 0) && decide (d ≤ 64)
def many (ks : List Rn) : Nat := (ks.filter fun k => decide (k.kind ≠ 0)).length
mutual
def rt : Rn → Nat → Bool
  | .mk k p v ks, d =>
    if k = 0 then true
    else if k = 1 then halvesB p && endsB (d + p.length) && decide (0 < v.length) && decide (v.length ≤ 1024)
    else if k = 2 then decide (0 < p.length) && halvesB p && decide (ks.length = 1) && decide ((ks.getD 0 default).kind = 3) && rtL ks (d + p.length)
    else if k = 3 then decide (ks.length = 16) && decide (v.length ≤ 1024) && (decide (v.length = 0) || endsB d) && rtL ks (d + 1) && decide (2 ≤ min v.length 1 + many ks)
    else false
def rtL : List Rn → Nat → Bool
  | [], _ => true
  | k :: r, d => rt k d && rtL r d
end
def pOf (p : List UInt8) : Pa := p.map fun x => ⟨x.toNat % 16, by omega⟩
def pB (p : Pa) : List UInt8 := p.map fun x => UInt8.ofNat x.val
theorem pB_len (p : Pa) : (pB p).length = p.length := List.length_map _
theorem pOf_len (p : List UInt8) : (pOf p).length = p.length := List.length_map _
theorem half_byte (i : Fin 16) : (UInt8.ofNat i.val).toNat = i.val := by
  have h := i.isLt
  simp only [UInt8.toNat_ofNat']
  omega
theorem half_inj {i j : Fin 16} (h : UInt8.ofNat i.val = UInt8.ofNat j.val) : i = j := by
  have := congrArg UInt8.toNat h
  rw [half_byte, half_byte] at this
  exact Fin.ext this
theorem pB_inj {p q : Pa} (h : pB p = pB q) : p = q := by
  unfold pB at h
  induction p generalizing q with
  | nil => cases q with
    | nil => rfl
    | cons y q => cases h
  | cons x p ih => cases q with
    | nil => cases h
    | cons y q =>
      simp only [List.map_cons, List.cons.injEq] at h
      rw [half_inj h.1, ih h.2]
theorem pOf_B (p : Pa) : pOf (pB p) = p := by
  unfold pOf pB
  rw [List.map_map]
  conv => rhs; rw [← List.map_id p]
  refine List.map_congr_left fun x _ => Fin.ext ?_
  have h := half_byte x
  have h2 := x.isLt
  show (UInt8.ofNat x.val).toNat % 16 = x.val
  omega
theorem pB_of {p : List UInt8} (h : halvesB p = true) : pB (pOf p) = p := by
  unfold pOf pB
  rw [List.map_map]
  conv => rhs; rw [← List.map_id p]
  refine List.map_congr_left fun x hx => UInt8.toNat_inj.1 ?_
  have h1 : x.toNat ≤ 15 := of_decide_eq_true (List.all_eq_true.1 h x hx)
  show (UInt8.ofNat (x.toNat % 16)).toNat = x.toNat
  simp only [UInt8.toNat_ofNat']
  omega
theorem halves_pB (p : Pa) : halvesB (pB p) = true := by
  unfold halvesB pB
  rw [List.all_eq_true]
  intro x hx
  obtain ⟨i, _, rfl⟩ := List.mem_map.1 hx
  have h := half_byte i
  have := i.isLt
  exact decide_eq_true (by omega)
theorem pB_app (p q : Pa) : pB (p ++ q) = pB p ++ pB q := List.map_append
mutual
def toN : Rn → Nd
  | .mk k p v ks => if k = 1 then .leaf (pOf p) v else if k = 2 then .road (pOf p) (toNL ks 0) else if k = 3 then .fork (fun i => toNL ks i.val) v else .no
def toNL : List Rn → Nat → Nd
  | [], _ => .no
  | x :: _, 0 => toN x
  | _ :: r, i + 1 => toNL r i
end
theorem toN_default : toN default = .no := by
  show toN (.mk default default default default) = _
  unfold toN
  rfl
theorem toNL_get : ∀ (ks : List Rn) (i : Nat), toNL ks i = toN (ks.getD i default)
  | [], i => by unfold toNL; rw [List.getD_nil, toN_default]
  | x :: r, 0 => by unfold toNL; rfl
  | x :: r, i + 1 => by
    unfold toNL
    rw [toNL_get r i, List.getD_cons_succ]
def ofN : Nd → Rn
  | .no => .mk 0 [] [] []
  | .leaf p v => .mk 1 (pB p) v []
  | .road p k => .mk 2 (pB p) [] [ofN k]
  | .fork ks v => .mk 3 [] v ((List.finRange 16).map fun i => ofN (ks i))
theorem rtL_get : ∀ {ks : List Rn} {d : Nat}, rtL ks d = true ↔ ∀ i, i < ks.length → rt (ks.getD i default) d = true
  | [], d => by unfold rtL; simp
  | x :: r, d => by
    unfold rtL
    rw [Bool.and_eq_true, rtL_get (ks := r) (d := d)]
    constructor
    · rintro ⟨h1, h2⟩ i hi
      cases i with
      | zero => exact h1
      | succ i => rw [List.getD_cons_succ]; exact h2 i (by simpa using hi)
    · intro h
      exact ⟨h 0 (by simp), fun i hi => by have := h (i + 1) (by simpa using hi); rwa [List.getD_cons_succ] at this⟩
theorem rt_eq (k : Int) (p v : List UInt8) (ks : List Rn) (d : Nat) : rt (.mk k p v ks) d = (if k = 0 then true
    else if k = 1 then halvesB p && endsB (d + p.length) && decide (0 < v.length) && decide (v.length ≤ 1024)
    else if k = 2 then decide (0 < p.length) && halvesB p && decide (ks.length = 1) && decide ((ks.getD 0 default).kind = 3) && rtL ks (d + p.length)
    else if k = 3 then decide (ks.length = 16) && decide (v.length ≤ 1024) && (decide (v.length = 0) || endsB d) && rtL ks (d + 1) && decide (2 ≤ min v.length 1 + many ks)
    else false) := by rw [rt]
theorem toN_eq (k : Int) (p v : List UInt8) (ks : List Rn) : toN (.mk k p v ks) = (if k = 1 then .leaf (pOf p) v else if k = 2 then .road (pOf p) (toN (ks.getD 0 default)) else if k = 3 then .fork (fun i => toN (ks.getD i.val default)) v else .no) := by
  rw [toN]
  simp only [toNL_get]
theorem endsB_eq {d : Nat} : endsB d = true ↔ ends d := by
  unfold endsB ends
  simp
theorem toN_no {x : Rn} {d : Nat} (h : rt x d = true) : toN x = .no ↔ x.kind = 0 := by
  obtain ⟨k, p, v, ks⟩ := x
  rw [rt_eq] at h
  rw [toN_eq]
  show _ ↔ k = 0
  by_cases h0 : k = 0
  · subst h0; simp
  · rw [if_neg h0] at h
    by_cases h1 : k = 1
    · subst h1; simp
    · rw [if_neg h1] at h
      by_cases h2 : k = 2
      · subst h2; simp
      · rw [if_neg h2] at h
        by_cases h3 : k = 3
        · subst h3; simp
        · rw [if_neg h3] at h; cases h
theorem many_two {ks : List Rn} (h : 2 ≤ many ks) : ∃ i j, i < ks.length ∧ j < ks.length ∧ i ≠ j ∧ (ks.getD i default).kind ≠ 0 ∧ (ks.getD j default).kind ≠ 0 := by
  induction ks with
  | nil => simp [many] at h
  | cons x r ih =>
    unfold many at h ih
    rw [List.filter_cons] at h
    by_cases hx : x.kind = 0
    · rw [if_neg (by simpa using hx)] at h
      obtain ⟨i, j, h1, h2, h3, h4, h5⟩ := ih h
      exact ⟨i + 1, j + 1, by simp; omega, by simp; omega, by omega, by rwa [List.getD_cons_succ], by rwa [List.getD_cons_succ]⟩
    · rw [if_pos (by simpa using hx), List.length_cons] at h
      have : 0 < (r.filter fun k => decide (k.kind ≠ 0)).length := by omega
      obtain ⟨y, hy⟩ := List.exists_mem_of_length_pos this
      rw [List.mem_filter] at hy
      obtain ⟨j, hj, e⟩ := List.mem_iff_getElem.1 hy.1
      refine ⟨0, j + 1, by simp, by simp; omega, by omega, hx, ?_⟩
      rw [List.getD_cons_succ, List.getD_eq_getElem?_getD, List.getElem?_eq_getElem hj]
      simpa [e] using hy.2
theorem many_one {ks : List Rn} (h : 1 ≤ many ks) : ∃ i, i < ks.length ∧ (ks.getD i default).kind ≠ 0 := by
  unfold many at h
  obtain ⟨y, hy⟩ := List.exists_mem_of_length_pos (show 0 < (ks.filter fun k => decide (k.kind ≠ 0)).length by omega)
  rw [List.mem_filter] at hy
  obtain ⟨j, hj, e⟩ := List.mem_iff_getElem.1 hy.1
  refine ⟨j, hj, ?_⟩
  rw [List.getD_eq_getElem?_getD, List.getElem?_eq_getElem hj]
  simpa [e] using hy.2
theorem sizeL_get {ks : List Rn} {i : Nat} (h : i < ks.length) : (ks.getD i default).size < Rn.sizeL ks := by
  induction ks generalizing i with
  | nil => simp at h
  | cons x r ih =>
    unfold Rn.sizeL
    cases i with
    | zero => rw [List.getD_cons_zero]; omega
    | succ i => rw [List.getD_cons_succ]; have := ih (i := i) (by simpa using h); omega
theorem size_eq (k : Int) (p v : List UInt8) (ks : List Rn) : (Rn.mk k p v ks).size = 1 + p.length + v.length + Rn.sizeL ks := by rw [Rn.size]
theorem sizeL_len (ks : List Rn) : ks.length ≤ Rn.sizeL ks := by
  induction ks with
  | nil => simp
  | cons a r ih => rw [Rn.sizeL, List.length_cons]; omega
theorem rt_right : ∀ (n : Nat) (x : Rn) (d : Nat), x.size ≤ n → rt x d = true → Right (toN x) d := by
  intro n
  induction n with
  | zero => intro x d h; obtain ⟨k, p, v, ks⟩ := x; rw [size_eq] at h; omega
  | succ n ih =>
    intro x d hn h
    obtain ⟨k, p, v, ks⟩ := x
    rw [size_eq] at hn
    rw [rt_eq] at h
    rw [toN_eq]
    have kid : ∀ i, i < ks.length → ∀ d', rt (ks.getD i default) d' = true → Right (toN (ks.getD i default)) d' := fun i hi d' h' => ih _ _ (by have := sizeL_get hi; omega) h'
    by_cases h0 : k = 0
    · subst h0; exact trivial
    rw [if_neg h0] at h
    by_cases h1 : k = 1
    · subst h1
      simp only [if_true, Bool.and_eq_true, decide_eq_true_eq, endsB_eq] at h ⊢
      obtain ⟨⟨⟨_, a2⟩, a3⟩, a4⟩ := h
      exact ⟨by rw [pOf_len]; exact a2, fun e => by rw [e] at a3; simp at a3, a4⟩
    rw [if_neg h1] at h ⊢
    by_cases h2 : k = 2
    · subst h2
      simp only [if_true, Bool.and_eq_true, decide_eq_true_eq] at h ⊢
      obtain ⟨⟨⟨⟨a1, a2⟩, a3⟩, a4⟩, a5⟩ := h
      have hr := rtL_get.1 a5 0 (by omega)
      refine ⟨fun e => ?_, ?_, ?_⟩
      · have := congrArg List.length e; rw [pOf_len] at this; simp at this; rw [this] at a1; simp at a1
      · generalize ks.getD 0 default = y at a4
        obtain ⟨k', p', v', ks'⟩ := y
        have : k' = 3 := a4
        subst this
        rw [toN_eq]; rfl
      · rw [pOf_len]; exact kid 0 (by omega) _ hr
    rw [if_neg h2] at h ⊢
    by_cases h3 : k = 3
    · subst h3
      simp only [if_true, Bool.and_eq_true, decide_eq_true_eq, Bool.or_eq_true, endsB_eq] at h ⊢
      obtain ⟨⟨⟨⟨a1, a2⟩, a3⟩, a4⟩, a5⟩ := h
      have hr := rtL_get.1 a4
      refine ⟨a2, fun hv => ?_, fun i => kid _ (by omega) _ (hr _ (by omega)), ?_⟩
      · rcases a3 with a3 | a3
        · exact absurd (List.eq_nil_of_length_eq_zero a3) hv
        · exact a3
      · have nn : ∀ i (hi : i < ks.length), (ks.getD i default).kind ≠ 0 → toN (ks.getD i default) ≠ .no := fun i hi hk e => hk ((toN_no (hr i hi)).1 e)
        by_cases hv : v = []
        · subst hv
          obtain ⟨i, j, b1, b2, b3, b4, b5⟩ := many_two (ks := ks) (by simpa using a5)
          exact .inr ⟨⟨i, by omega⟩, ⟨j, by omega⟩, fun e => b3 (congrArg Fin.val e), nn i b1 b4, nn j b2 b5⟩
        · obtain ⟨i, b1, b2⟩ := many_one (ks := ks) (by have : min v.length 1 ≤ 1 := Nat.min_le_right ..; omega)
          exact .inl ⟨hv, ⟨i, by omega⟩, nn i b1 b2⟩
    · rw [if_neg h3] at h; cases h
end Tr
set_option maxRecDepth 100000
namespace Tr
mutual
def sm : Rn → Rn → Bool
  | .mk k p v ks, .mk k' p' v' ks' =>
    if k = k' then (if k = 1 then decide (p = p') && decide (v = v') else if k = 2 then decide (p = p') && smL ks ks' else if k = 3 then decide (v = v') && smL ks ks' else true) else false
def smL : List Rn → List Rn → Bool
  | [], [] => true
  | x :: r, y :: s => sm x y && smL r s
  | _, _ => false
end
theorem toN_of : ∀ n : Nd, toN (ofN n) = n
  | .no => by unfold ofN; rw [toN_eq]; rfl
  | .leaf p v => by unfold ofN; rw [toN_eq]; simp only [if_true]; rw [pOf_B]
  | .road p k => by
    unfold ofN; rw [toN_eq]
    simp only [Int.reduceEq, if_true, if_false, List.getD_cons_zero]
    rw [pOf_B, toN_of k]
  | .fork ks v => by
    unfold ofN; rw [toN_eq]
    simp only [Int.reduceEq, if_true, if_false]
    congr 1
    funext i
    rw [List.getD_eq_getElem?_getD, List.getElem?_map, List.getElem?_eq_getElem (by simp)]
    simp only [List.getElem_finRange, Option.map_some, Option.getD_some, Fin.cast_mk, Fin.eta]
    exact toN_of (ks i)
theorem kind_of (n : Nd) : (ofN n).kind = 0 ↔ n = .no := by
  cases n <;> simp [ofN, Rn.kind]
theorem many_of {ks : Fin 16 → Nd} {v : List UInt8} (h : Two ks v) : 2 ≤ min v.length 1 + many ((List.finRange 16).map fun i => ofN (ks i)) := by
  unfold many
  rw [List.filter_map, List.length_map]
  have e : ((fun k : Rn => decide (k.kind ≠ 0)) ∘ fun i => ofN (ks i)) = fun i => !isNo (ks i) := by
    funext i
    show decide ((ofN (ks i)).kind ≠ 0) = _
    cases ks i <;> rfl
  rw [e]
  show 2 ≤ min v.length 1 + (kidsOf ks).length
  rcases h with ⟨hv, i, hi⟩ | ⟨i, j, hij, hi, hj⟩
  · have h1 : 0 < v.length := List.length_pos_iff.2 hv
    have h2 : 0 < (kidsOf ks).length := List.length_pos_of_mem (kids_mem.2 hi)
    have : min v.length 1 = 1 := Nat.min_eq_right h1
    omega
  · have h1 := kids_mem.2 hi
    have h2 := kids_mem.2 hj
    have : 2 ≤ (kidsOf ks).length := by
      cases hl : kidsOf ks with
      | nil => rw [hl] at h1; cases h1
      | cons a r => cases r with
        | nil =>
          rw [hl] at h1 h2
          simp only [List.mem_cons, List.not_mem_nil, or_false] at h1 h2
          exact absurd (h1.trans h2.symm) hij
        | cons b s => simp
    omega
theorem rt_of : ∀ (n : Nd) (d : Nat), Right n d → rt (ofN n) d = true
  | .no, d, _ => by unfold ofN; rw [rt_eq]; rfl
  | .leaf p v, d, h => by
    unfold ofN; rw [rt_eq]
    simp only [Int.reduceEq, if_true, if_false, Bool.and_eq_true, decide_eq_true_eq, endsB_eq]
    exact ⟨⟨⟨halves_pB p, by rw [pB_len]; exact h.1⟩, List.length_pos_iff.2 h.2.1⟩, h.2.2⟩
  | .road p k, d, h => by
    unfold ofN; rw [rt_eq]
    simp only [Int.reduceEq, if_true, if_false, Bool.and_eq_true, decide_eq_true_eq]
    have hk := rt_of k _ h.2.2
    refine ⟨⟨⟨⟨by rw [pB_len]; exact List.length_pos_iff.2 h.1, halves_pB p⟩, rfl⟩, ?_⟩, ?_⟩
    · obtain ⟨ks, v, rfl⟩ := fork_is h.2.1
      simp [ofN, Rn.kind]
    · rw [pB_len, rtL, hk]; unfold rtL; rfl
  | .fork ks v, d, h => by
    unfold ofN; rw [rt_eq]
    simp only [Int.reduceEq, if_true, if_false, Bool.and_eq_true, decide_eq_true_eq, Bool.or_eq_true, endsB_eq]
    refine ⟨⟨⟨⟨by rw [List.length_map, List.length_finRange], h.1⟩, ?_⟩, ?_⟩, many_of h.2.2.2⟩
    · by_cases hv : v = []
      · exact .inl (by rw [hv]; rfl)
      · exact .inr (h.2.1 hv)
    · rw [rtL_get]
      intro i hi
      rw [List.length_map, List.length_finRange] at hi
      rw [List.getD_eq_getElem?_getD, List.getElem?_map, List.getElem?_eq_getElem (by simp; omega)]
      simp only [List.getElem_finRange, Option.map_some, Option.getD_some]
      exact rt_of _ _ (h.2.2.1 _)
end Tr
namespace Ps
def pos (B : Nat) : List Nat → Nat
  | [] => 0
  | a :: l => a * B ^ l.length + pos B l
def NL (l : List Nat) : Prop := l.head? ≠ some 0
def lexN : List Nat → List Nat → Bool
  | a :: l, b :: m => decide (a < b) || (decide (a = b) && lexN l m)
  | [], _ :: _ => true
  | _, [] => false
theorem pos_append (B : Nat) (l m : List Nat) : pos B (l ++ m) = pos B l * B ^ m.length + pos B m := by
  induction l with
  | nil => simp [pos]
  | cons a l ih =>
    simp only [List.cons_append, pos, ih, List.length_append, Nat.pow_add, Nat.add_mul, Nat.mul_assoc, Nat.add_assoc]
theorem pos_lt {B : Nat} {l : List Nat} (h : ∀ a ∈ l, a < B) : pos B l < B ^ l.length := by
  induction l with
  | nil => simp [pos]
  | cons a l ih =>
    have h1 := ih fun x hx => h x (by simp [hx])
    have h2 : (a + 1) * B ^ l.length ≤ B * B ^ l.length := Nat.mul_le_mul_right _ (h a (by simp))
    simp only [pos, List.length_cons, Nat.pow_succ]
    rw [Nat.mul_comm (B ^ l.length) B]
    rw [Nat.add_mul, Nat.one_mul] at h2
    omega
theorem pos_ge {B : Nat} {a : Nat} {l : List Nat} (h : a ≠ 0) : B ^ l.length ≤ pos B (a :: l) := by
  simp only [pos]
  have : 1 * B ^ l.length ≤ a * B ^ l.length := Nat.mul_le_mul_right _ (by omega)
  omega
theorem pos_lex {B : Nat} : ∀ {l m : List Nat}, l.length = m.length → (∀ a ∈ l, a < B) → (∀ a ∈ m, a < B) → (pos B l < pos B m ↔ lexN l m = true)
  | [], [], _, _, _ => by simp [pos, lexN]
  | a :: l, b :: m, hl, h1, h2 => by
    have hl' : l.length = m.length := by simpa using hl
    have ih := pos_lex hl' (fun x hx => h1 x (by simp [hx])) (fun x hx => h2 x (by simp [hx]))
    have k1 := pos_lt (B := B) (l := l) fun x hx => h1 x (by simp [hx])
    have k2 := pos_lt (B := B) (l := m) fun x hx => h2 x (by simp [hx])
    simp only [pos, lexN, Bool.or_eq_true, Bool.and_eq_true, decide_eq_true_eq, ← ih]
    rw [← hl'] at k2 ⊢
    generalize B ^ l.length = p at *
    rcases Nat.lt_trichotomy a b with h | h | h
    · have := Nat.mul_le_mul_right p (Nat.succ_le_of_lt h)
      rw [Nat.succ_mul] at this
      exact ⟨fun _ => .inl h, fun _ => by omega⟩
    · subst h
      exact ⟨fun k => .inr ⟨rfl, by omega⟩, fun k => by rcases k with k | k <;> omega⟩
    · have := Nat.mul_le_mul_right p (Nat.succ_le_of_lt h)
      rw [Nat.succ_mul] at this
      exact ⟨fun k => by omega, fun k => by rcases k with k | k <;> omega⟩
  | [], _ :: _, hl, _, _ => by simp at hl
  | _ :: _, [], hl, _, _ => by simp at hl
theorem pos_len {B : Nat} {l m : List Nat} (hB : 0 < B) (hl : l.length < m.length) (h1 : ∀ a ∈ l, a < B) (hm : NL m) : pos B l < pos B m := by
  cases m with
  | nil => simp at hl
  | cons b m =>
    have h2 : b ≠ 0 := fun e => hm (by simp [e])
    have := pos_ge (B := B) (l := m) h2
    have k := pos_lt h1
    have : B ^ l.length ≤ B ^ m.length := Nat.pow_le_pow_right hB (by simp at hl; omega)
    omega
theorem pos_order {B : Nat} {l m : List Nat} (hB : 0 < B) (h1 : ∀ a ∈ l, a < B) (h2 : ∀ a ∈ m, a < B) (k1 : NL l) (k2 : NL m) : pos B l < pos B m ↔ l.length < m.length ∨ (l.length = m.length ∧ lexN l m = true) := by
  rcases Nat.lt_trichotomy l.length m.length with h | h | h
  · exact ⟨fun _ => .inl h, fun _ => pos_len hB h h1 k2⟩
  · rw [pos_lex h h1 h2]
    exact ⟨fun k => .inr ⟨h, k⟩, fun k => by rcases k with k | k <;> first | omega | exact k.2⟩
  · have := pos_len hB h h2 k1
    exact ⟨fun k => by omega, fun k => by omega⟩
theorem lexN_eq : ∀ {l m : List Nat}, l.length = m.length → lexN l m = false → lexN m l = false → l = m
  | [], [], _, _, _ => rfl
  | a :: l, b :: m, hl, h1, h2 => by
    simp only [lexN, Bool.or_eq_false_iff, Bool.and_eq_false_iff, decide_eq_false_iff_not] at h1 h2
    obtain rfl : a = b := by omega
    rw [lexN_eq (l := l) (m := m) (by simpa using hl) (by rcases h1.2 with h | h; exact absurd rfl h; exact h) (by rcases h2.2 with h | h; exact absurd rfl h; exact h)]
  | [], _ :: _, hl, _, _ => by simp at hl
  | _ :: _, [], hl, _, _ => by simp at hl
theorem pos_inj {B : Nat} {l m : List Nat} (hB : 0 < B) (h1 : ∀ a ∈ l, a < B) (h2 : ∀ a ∈ m, a < B) (k1 : NL l) (k2 : NL m) (h : pos B l = pos B m) : l = m := by
  have e1 := pos_order hB h1 h2 k1 k2
  have e2 := pos_order hB h2 h1 k2 k1
  have n1 : ¬ (l.length < m.length ∨ (l.length = m.length ∧ lexN l m = true)) := fun h' => by have := e1.2 h'; omega
  have n2 : ¬ (m.length < l.length ∨ (m.length = l.length ∧ lexN m l = true)) := fun h' => by have := e2.2 h'; omega
  have hl : l.length = m.length := by omega
  refine lexN_eq hl ?_ ?_
  · rw [← Bool.not_eq_true]; exact fun h' => n1 (.inr ⟨hl, h'⟩)
  · rw [← Bool.not_eq_true]; exact fun h' => n2 (.inr ⟨hl.symm, h'⟩)
def strip (l : List UInt8) : List UInt8 := l.dropWhile (· == 0)
def nat8 (l : List UInt8) : List Nat := l.map UInt8.toNat
theorem nat8_lt (l : List UInt8) : ∀ a ∈ nat8 l, a < 256 := fun a ha => by
  obtain ⟨x, _, rfl⟩ := List.mem_map.1 ha
  exact x.toNat_lt
theorem nat8_inj {l m : List UInt8} (h : nat8 l = nat8 m) : l = m := by
  induction l generalizing m with
  | nil => cases m with
    | nil => rfl
    | cons _ _ => simp [nat8] at h
  | cons a l ih => cases m with
    | nil => simp [nat8] at h
    | cons b m =>
      simp only [nat8, List.map_cons, List.cons.injEq] at h
      rw [UInt8.toNat_inj.1 h.1, ih h.2]
theorem strip_nl (l : List UInt8) : NL (nat8 (strip l)) := by
  unfold strip
  induction l with
  | nil => simp [NL, nat8]
  | cons a l ih =>
    rw [List.dropWhile_cons]
    split
    · exact ih
    · rename_i h
      intro e
      simp only [nat8, List.map_cons, List.head?_cons, Option.some.injEq] at e
      apply h
      have : a = 0 := UInt8.toNat_inj.1 (by rw [e]; rfl)
      simp [this]
theorem strip_pos (B : Nat) (l : List UInt8) : pos B (nat8 (strip l)) = pos B (nat8 l) := by
  unfold strip
  induction l with
  | nil => rfl
  | cons a l ih =>
    rw [List.dropWhile_cons]
    split
    · rename_i h
      have : a = 0 := by simpa using h
      subst this
      rw [ih]
      simp [nat8, pos]
    · rfl
theorem nl_iff (l : List UInt8) : NL (nat8 l) ↔ l.head? ≠ some 0 := by
  cases l with
  | nil => simp [NL, nat8]
  | cons a l =>
    simp only [NL, nat8, List.map_cons, List.head?_cons, ne_eq, Option.some.injEq]
    constructor
    · intro h e; apply h; rw [e]; rfl
    · intro h e; apply h; exact UInt8.toNat_inj.1 (by rw [e]; rfl)
theorem strip_id {l : List UInt8} (h : l.head? ≠ some 0) : strip l = l := by
  cases l with
  | nil => rfl
  | cons a l =>
    unfold strip
    rw [List.dropWhile_cons, if_neg]
    intro e
    apply h
    have : a = 0 := by simpa using e
    rw [this]; rfl
def beN (l : List UInt8) : Nat := pos 256 (nat8 l)
theorem beN_lt (l : List UInt8) : beN l < 256 ^ l.length := by
  have := pos_lt (nat8_lt l)
  rwa [show (nat8 l).length = l.length by simp [nat8]] at this
theorem beN_strip (l : List UInt8) : beN (strip l) = beN l := strip_pos 256 l
theorem beN_inj {l m : List UInt8} (k1 : l.head? ≠ some 0) (k2 : m.head? ≠ some 0) (h : beN l = beN m) : l = m :=
  nat8_inj (pos_inj (by decide) (nat8_lt l) (nat8_lt m) ((nl_iff l).2 k1) ((nl_iff m).2 k2) h)
theorem strip_head (l : List UInt8) : (strip l).head? ≠ some 0 := (nl_iff _).1 (strip_nl l)
end Ps
namespace Pk
open Ps
inductive Itm where
  | mk (l : Bool) (t : List UInt8) (ks : List Itm)
  deriving Inhabited
mutual
def Itm.size : Itm → Nat
  | .mk _ t ks => 1 + t.length + Itm.sizeL ks
def Itm.sizeL : List Itm → Nat
  | [] => 0
  | k :: r => k.size + 1 + Itm.sizeL r
end
def numL : Nat → List UInt8
  | 0 => []
  | n + 1 => numL ((n + 1) / 256) ++ [UInt8.ofNat ((n + 1) % 256)]
decreasing_by omega
theorem beN_append (l m : List UInt8) : beN (l ++ m) = beN l * 256 ^ m.length + beN m := by
  unfold beN
  rw [show nat8 (l ++ m) = nat8 l ++ nat8 m by simp [nat8], pos_append]
  simp [nat8]
theorem beN_numL : ∀ n, beN (numL n) = n
  | 0 => by rw [numL]; rfl
  | n + 1 => by
    have h : (n + 1) / 256 < n + 1 := by omega
    rw [numL, beN_append, beN_numL ((n + 1) / 256)]
    have : beN [UInt8.ofNat ((n + 1) % 256)] = (n + 1) % 256 := by simp [beN, nat8, pos]
    rw [this]
    simp only [List.length_cons, List.length_nil]
    omega
decreasing_by omega
theorem numL_head : ∀ n, (numL n).head? ≠ some 0
  | 0 => by rw [numL]; simp
  | n + 1 => by
    have h : (n + 1) / 256 < n + 1 := by omega
    rw [numL]
    have ih := numL_head ((n + 1) / 256)
    cases hl : numL ((n + 1) / 256) with
    | nil =>
      have e := beN_numL ((n + 1) / 256)
      rw [hl] at e
      have e0 : beN [] = 0 := rfl
      rw [e0] at e
      intro h0
      simp only [List.nil_append, List.head?_cons, Option.some.injEq] at h0
      have := congrArg UInt8.toNat h0
      simp at this
      omega
    | cons a r => rw [hl] at ih; simpa using ih
decreasing_by omega
theorem numL_uniq {n : Nat} {l : List UInt8} (h : l.head? ≠ some 0) (k : beN l = n) : l = numL n := beN_inj h (numL_head n) (k.trans (beN_numL n).symm)
theorem strip_num {l : List UInt8} {n : Nat} (h : beN l = n) : strip l = numL n := numL_uniq (strip_head l) ((beN_strip l).trans h)
theorem numL_len {n k : Nat} (h : n < 256 ^ k) : (numL n).length ≤ k := by
  rcases Nat.lt_or_ge k (numL n).length with hlt | hge
  · exfalso
    have hh := numL_head n
    have hb := beN_numL n
    cases hl : numL n with
    | nil => rw [hl] at hlt; simp at hlt
    | cons a r =>
      rw [hl] at hh hb hlt
      have ha : a.toNat ≠ 0 := fun e => hh (by simp only [List.head?_cons, Option.some.injEq]; exact UInt8.toNat_inj.1 (by rw [e]; rfl))
      have := pos_ge (B := 256) (a := a.toNat) (l := nat8 r) ha
      have e : pos 256 (a.toNat :: nat8 r) = n := hb
      rw [e] at this
      have hp : 256 ^ k ≤ 256 ^ (nat8 r).length := Nat.pow_le_pow_right (by decide) (by simp [nat8] at hlt ⊢; omega)
      omega
  · exact hge
theorem numL_pos {n : Nat} (h : 0 < n) : 0 < (numL n).length := by
  rcases Nat.eq_zero_or_pos (numL n).length with h0 | h0
  · have e := beN_numL n
    rw [List.eq_nil_of_length_eq_zero h0] at e
    have e0 : beN [] = 0 := rfl
    omega
  · exact h0
def head (base n : Nat) : List UInt8 := if n < 48 then [UInt8.ofNat (base + n)] else UInt8.ofNat (base + 48 + ((numL n).length - 1)) :: numL n
mutual
def enc : Itm → List UInt8
  | .mk false t _ => if t.length = 1 ∧ t.getD 0 default < 128 then t else head 128 t.length ++ t
  | .mk true _ ks => head 192 (encL ks).length ++ encL ks
def encL : List Itm → List UInt8
  | [] => []
  | k :: r => enc k ++ encL r
end
mutual
def nrm : Itm → Itm
  | .mk false t _ => .mk false t []
  | .mk true _ ks => .mk true [] (nrmL ks)
def nrmL : List Itm → List Itm
  | [] => []
  | k :: r => nrm k :: nrmL r
end
mutual
def same : Itm → Itm → Bool
  | .mk l t ks, .mk l' t' ks' => decide (l = l') && (if l = false then decide (t = t') else decide (ks.length = ks'.length) && sameL ks ks')
def sameL : List Itm → List Itm → Bool
  | a :: r, b :: s => same a b && sameL r s
  | [], _ => true
  | _ :: _, [] => true
end
def take? (n : Nat) (l : List UInt8) : Option (List UInt8 × List UInt8) := if n ≤ l.length then some (l.take n, l.drop n) else none
def lenR (c base : Nat) (l : List UInt8) : Option (Nat × List UInt8) :=
  if c < base + 48 then some (c - base, l)
  else match take? (c - base - 48 + 1) l with
    | none => none
    | some (h, r) => if h.head? = some 0 ∨ 8 < h.length then none else if beN h < 48 then none else some (beN h, r)
def part (c base : Nat) (l : List UInt8) : Option (List UInt8 × List UInt8) :=
  match lenR c base l with
  | none => none
  | some (n, r) => take? n r
theorem take?_spec {n : Nat} {l a r : List UInt8} (h : take? n l = some (a, r)) : l = a ++ r ∧ a.length = n := by
  unfold take? at h
  split at h
  · cases h
    exact ⟨(List.take_append_drop n l).symm, by simp; omega⟩
  · cases h
theorem take?_app (a r : List UInt8) : take? a.length (a ++ r) = some (a, r) := by simp [take?]
theorem lenR_spec {c base n : Nat} {l r : List UInt8} (h : lenR c base l = some (n, r)) : r.length ≤ l.length := by
  unfold lenR at h
  split at h
  · cases h; exact Nat.le_refl _
  · split at h
    · cases h
    · rename_i h' r' ht
      obtain ⟨rfl, _⟩ := take?_spec ht
      split at h
      · cases h
      · split at h
        · cases h
        · cases h; simp
theorem part_spec {c base : Nat} {l a r : List UInt8} (h : part c base l = some (a, r)) : a.length + r.length ≤ l.length := by
  unfold part at h
  split at h
  · cases h
  · rename_i n r' hl
    have := lenR_spec hl
    obtain ⟨rfl, _⟩ := take?_spec h
    simpa using this
mutual
def rd : List UInt8 → Option (Itm × List UInt8)
  | [] => none
  | c :: l =>
    if c.toNat < 128 then some (.mk false [c] [], l)
    else if c.toNat < 192 then
      match part c.toNat 128 l with
      | none => none
      | some (b, r) => if b.length = 1 ∧ b.getD 0 default < 128 then none else some (.mk false b [], r)
    else match _hp : part c.toNat 192 l with
      | none => none
      | some (b, r) =>
        match rdL b with
        | none => none
        | some ks => some (.mk true [] ks, r)
termination_by l => (l.length, 0)
decreasing_by
  have := part_spec _hp
  exact Prod.Lex.left _ _ (by simp; omega)
def rdL (b : List UInt8) : Option (List Itm) :=
  if b = [] then some []
  else match rd b with
    | none => none
    | some (k, r) =>
      if r.length < b.length then
        match rdL r with
        | none => none
        | some ks => some (k :: ks)
      else none
termination_by (b.length, 1)
decreasing_by
  · exact Prod.Lex.right _ (by decide)
  · rename_i h; exact Prod.Lex.left _ _ h
end
theorem rd_len {l r : List UInt8} {k : Itm} (h : rd l = some (k, r)) : r.length < l.length := by
  cases l with
  | nil => rw [rd] at h; cases h
  | cons c l =>
    rw [rd] at h
    split at h
    · cases h; simp
    · split at h
      · split at h
        · cases h
        · rename_i b r' hp
          have := part_spec hp
          split at h
          · cases h
          · cases h; simp; omega
      · split at h
        · cases h
        · rename_i b r' hp
          have := part_spec hp
          split at h
          · cases h
          · cases h; simp; omega
theorem rdL_cons {b r : List UInt8} {k : Itm} (h : rd b = some (k, r)) : rdL b = (rdL r).map (k :: ·) := by
  rw [rdL]
  have hl := rd_len h
  have hb : b ≠ [] := fun e => by subst e; simp at hl
  rw [if_neg hb, h]
  simp only [hl, if_true]
  cases rdL r <;> rfl
theorem rdL_none {b : List UInt8} (hb : b ≠ []) (h : rd b = none) : rdL b = none := by
  rw [rdL, if_neg hb, h]
theorem ofNat_toNat {n : Nat} (h : n < 256) : (UInt8.ofNat n).toNat = n := by simp; omega
theorem part_head {base : Nat} {t r : List UInt8} (hb : base + 64 ≤ 256) (ht : t.length < 2 ^ 64) : ∃ c h, head base t.length = c :: h ∧ base ≤ c.toNat ∧ c.toNat < base + 64 ∧ part c.toNat base (h ++ (t ++ r)) = some (t, r) := by
  unfold head
  rcases Nat.lt_or_ge t.length 48 with h | h
  · rw [if_pos h]
    have e := ofNat_toNat (n := base + t.length) (by omega)
    refine ⟨_, _, rfl, by omega, by omega, ?_⟩
    rw [e]
    unfold part lenR
    rw [if_pos (by omega)]
    simp only [List.nil_append, Nat.add_sub_cancel_left]
    exact take?_app t r
  · rw [if_neg (by omega)]
    have h8 : (numL t.length).length ≤ 8 := numL_len (by simpa using ht)
    have h0 := numL_pos (n := t.length) (by omega)
    have e := ofNat_toNat (n := base + 48 + ((numL t.length).length - 1)) (by omega)
    refine ⟨_, _, rfl, by omega, by omega, ?_⟩
    rw [e]
    unfold part lenR
    rw [if_neg (by omega), show base + 48 + ((numL t.length).length - 1) - base - 48 + 1 = (numL t.length).length by omega, take?_app]
    simp only []
    rw [if_neg (by intro hh; rcases hh with hh | hh; exact numL_head _ hh; omega), beN_numL, if_neg (by omega)]
    exact take?_app t r
theorem part_uniq {base c : Nat} {l a r : List UInt8} (hc : base ≤ c) (hc2 : c < base + 64) (_hb : base + 64 ≤ 256) (h : part c base l = some (a, r)) : UInt8.ofNat c :: l = head base a.length ++ (a ++ r) := by
  unfold part at h
  split at h
  · cases h
  · rename_i n r' hl
    unfold lenR at hl
    split at hl
    · cases hl
      obtain ⟨rfl, hn⟩ := take?_spec h
      unfold head
      rw [if_pos (by omega), show base + a.length = c by omega]
      rfl
    · split at hl
      · cases hl
      · rename_i h' r'' ht
        obtain ⟨rfl, hn'⟩ := take?_spec ht
        split at hl
        · cases hl
        · split at hl
          · cases hl
          · rename_i hz hs
            cases hl
            obtain ⟨rfl, hn⟩ := take?_spec h
            have e : h' = numL a.length := numL_uniq (fun e => hz (.inl e)) hn.symm
            unfold head
            rw [if_neg (by omega), ← e, show base + 48 + (h'.length - 1) = c by omega]
            simp
mutual
theorem rd_enc : ∀ (a : Itm) (r : List UInt8), (enc a).length < 2 ^ 64 → rd (enc a ++ r) = some (nrm a, r)
  | .mk false t ks, r, h => by
    unfold enc at h ⊢
    split
    · rename_i h1
      obtain ⟨h1, h2⟩ := h1
      match t, h1 with
      | [c], _ =>
        have : c.toNat < 128 := h2
        simp only [List.cons_append, List.nil_append]
        rw [rd, if_pos this]
        rfl
    · rename_i h1
      rw [if_neg h1] at h
      obtain ⟨c, hh, e1, e2, e3, e4⟩ := part_head (base := 128) (t := t) (r := r) (by decide) (by simp at h; omega)
      rw [e1, List.cons_append, List.cons_append, List.append_assoc, rd, if_neg (by omega), if_pos (by omega), e4]
      simp only []
      rw [if_neg h1]
      rfl
  | .mk true t ks, r, h => by
    unfold enc at h ⊢
    have hl : (encL ks).length < 2 ^ 64 := by simp at h; omega
    obtain ⟨c, hh, e1, e2, e3, e4⟩ := part_head (base := 192) (t := encL ks) (r := r) (by decide) hl
    have ih := rdL_enc ks hl
    rw [e1, List.cons_append, List.cons_append, List.append_assoc, rd, if_neg (by omega), if_neg (by omega)]
    split
    · rename_i hp; rw [e4] at hp; cases hp
    · rename_i b r' hp
      rw [e4] at hp
      cases hp
      rw [ih]
      rfl
theorem rdL_enc : ∀ (a : List Itm), (encL a).length < 2 ^ 64 → rdL (encL a) = some (nrmL a)
  | [], _ => by rw [rdL]; rfl
  | k :: s, h => by
    unfold encL at h ⊢
    have h1 := rd_enc k (encL s) (by simp at h; omega)
    rw [rdL_cons h1, rdL_enc s (by simp at h; omega)]
    rfl
end
theorem rd_uniq : ∀ (n : Nat), (∀ (l r : List UInt8) (k : Itm), l.length ≤ n → rd l = some (k, r) → l = enc k ++ r ∧ nrm k = k) ∧ (∀ (l : List UInt8) (ks : List Itm), l.length ≤ n → rdL l = some ks → l = encL ks ∧ nrmL ks = ks) := by
  intro n
  induction n with
  | zero =>
    refine ⟨fun l r k hl h => ?_, fun l ks hl h => ?_⟩
    · have := rd_len h; omega
    · have : l = [] := List.eq_nil_of_length_eq_zero (by omega)
      subst this
      rw [rdL] at h
      simp at h
      subst h
      exact ⟨rfl, rfl⟩
  | succ n ih =>
    have key : ∀ (l r : List UInt8) (k : Itm), l.length ≤ n + 1 → rd l = some (k, r) → l = enc k ++ r ∧ nrm k = k := by
      intro l r k hl h
      cases l with
      | nil => rw [rd] at h; cases h
      | cons c l =>
        have hc := c.toNat_lt
        have hcc : UInt8.ofNat c.toNat = c := by simp
        rw [rd] at h
        split at h
        · rename_i h1
          cases h
          refine ⟨?_, rfl⟩
          unfold enc
          rw [if_pos ⟨rfl, h1⟩]
          rfl
        · rename_i h1
          split at h
          · rename_i h2
            split at h
            · cases h
            · rename_i b r' hp
              split at h
              · cases h
              · rename_i h3
                cases h
                refine ⟨?_, rfl⟩
                have := part_uniq (by omega) (by omega) (by decide) hp
                rw [hcc] at this
                unfold enc
                rw [if_neg h3, List.append_assoc]
                exact this
          · rename_i h2
            split at h
            · cases h
            · rename_i b r' hp
              split at h
              · cases h
              · rename_i ks hks
                cases h
                have hps := part_spec hp
                obtain ⟨e1, e2⟩ := ih.2 b ks (by simp at hl; omega) hks
                have := part_uniq (by omega) (by omega) (by decide) hp
                rw [hcc] at this
                unfold enc nrm
                rw [e2, ← e1, List.append_assoc]
                exact ⟨this, rfl⟩
    refine ⟨key, fun l ks hl h => ?_⟩
    rcases Nat.eq_zero_or_pos l.length with h0 | h0
    · have : l = [] := List.eq_nil_of_length_eq_zero h0
      subst this
      rw [rdL] at h
      simp at h
      subst h
      exact ⟨rfl, rfl⟩
    · cases hr : rd l with
      | none =>
        rw [rdL_none (fun e => by subst e; simp at h0) hr] at h; cases h
      | some x =>
        obtain ⟨k, r⟩ := x
        rw [rdL_cons hr] at h
        obtain ⟨ks', hks, rfl⟩ := Option.map_eq_some_iff.1 h
        have hlen := rd_len hr
        obtain ⟨e1, e2⟩ := key l r k hl hr
        obtain ⟨e3, e4⟩ := ih.2 r ks' (by omega) hks
        unfold encL nrmL
        rw [e2, e4, ← e3]
        exact ⟨e1, rfl⟩
def dec (b : List UInt8) : Option Itm :=
  match rd b with
  | some (k, []) => some k
  | _ => none
theorem dec_enc {a : Itm} (h : (enc a).length < 2 ^ 64) : dec (enc a) = some (nrm a) := by
  have := rd_enc a [] h
  rw [List.append_nil] at this
  unfold dec
  rw [this]
theorem dec_uniq {b : List UInt8} {k : Itm} (h : dec b = some k) : b = enc k := by
  unfold dec at h
  cases hr : rd b with
  | none => rw [hr] at h; cases h
  | some x =>
    obtain ⟨k', r⟩ := x
    rw [hr] at h
    cases r with
    | cons => cases h
    | nil =>
      cases h
      have := ((rd_uniq b.length).1 b [] k (Nat.le_refl _) hr).1
      simpa using this
theorem head_len {b n : Nat} (h : n < 2 ^ 64) : (head b n).length ≤ 9 := by
  unfold head
  split
  · simp
  · have := numL_len (n := n) (k := 8) (by simpa using h)
    simp only [List.length_cons]; omega
mutual
theorem enc_len : ∀ a : Itm, a.size < 2 ^ 56 → (enc a).length ≤ 9 * a.size
  | .mk false t ks, h => by
    unfold enc Itm.size at *
    split
    · omega
    · have : (head 128 t.length).length ≤ 9 := head_len (by omega)
      simp only [List.length_append]; omega
  | .mk true t ks, h => by
    unfold enc Itm.size at *
    have := encL_len ks (by omega)
    have h2 : (head 192 (encL ks).length).length ≤ 9 := head_len (by omega)
    simp only [List.length_append]; omega
theorem encL_len : ∀ a : List Itm, Itm.sizeL a < 2 ^ 56 → (encL a).length ≤ 9 * Itm.sizeL a
  | [], _ => by simp [encL]
  | k :: r, h => by
    unfold encL Itm.sizeL at *
    have h1 := enc_len k (by omega)
    have h2 := encL_len r (by omega)
    simp only [List.length_append]; omega
end
attribute [irreducible] head enc encL lenR part
end Pk
set_option maxRecDepth 100000
namespace Ro
open Tr Pk
def tagH (n : Nat) (leaf : Bool) : Fin 16 := ⟨n % 2 + (if leaf then 2 else 0), by split <;> omega⟩
def tagPa (q : Pa) (leaf : Bool) : Pa := tagH q.length leaf :: (if q.length % 2 = 0 then 0 :: q else q)
def tag (q : Pa) (leaf : Bool) : List UInt8 := keyB (tagPa q leaf)
def untagPa : Pa → Option (Pa × Bool)
  | x :: y :: r => if 3 < x.val then none else if x.val % 2 = 0 then (if y.val = 0 then some (r, decide (2 ≤ x.val)) else none) else some (y :: r, decide (2 ≤ x.val))
  | _ => none
theorem untagPa_cons (x y : Fin 16) (r : Pa) : untagPa (x :: y :: r) = (if 3 < x.val then none else if x.val % 2 = 0 then (if y.val = 0 then some (r, decide (2 ≤ x.val)) else none) else some (y :: r, decide (2 ≤ x.val))) := rfl
def untag (b : List UInt8) : Option (Pa × Bool) := untagPa (keyP b)
theorem tagPa_even (q : Pa) (leaf : Bool) : (tagPa q leaf).length % 2 = 0 := by
  unfold tagPa
  split <;> simp only [List.length_cons] <;> omega
theorem tagPa_len (q : Pa) (leaf : Bool) : (tagPa q leaf).length ≤ q.length + 2 := by
  unfold tagPa
  split <;> simp
theorem keyP_tag (q : Pa) (leaf : Bool) : keyP (tag q leaf) = tagPa q leaf := keyP_B (tagPa_even q leaf)
theorem tag_len (q : Pa) (leaf : Bool) : 2 * (tag q leaf).length ≤ q.length + 2 := by
  have := keyP_len (tag q leaf)
  rw [keyP_tag] at this
  have := tagPa_len q leaf
  omega
theorem untagPa_tag (q : Pa) (leaf : Bool) : untagPa (tagPa q leaf) = some (q, leaf) := by
  unfold tagPa
  have h2 : decide (2 ≤ (tagH q.length leaf).val) = leaf := by
    cases leaf
    · exact decide_eq_false (by show ¬ 2 ≤ q.length % 2 + 0; omega)
    · exact decide_eq_true (by show 2 ≤ q.length % 2 + 2; omega)
  have h3 : ¬ 3 < (tagH q.length leaf).val := by
    show ¬ 3 < q.length % 2 + (if leaf then 2 else 0)
    split <;> omega
  have h4 : (tagH q.length leaf).val % 2 = q.length % 2 := by
    show (q.length % 2 + (if leaf then 2 else 0)) % 2 = _
    split <;> omega
  by_cases h : q.length % 2 = 0
  · rw [if_pos h]
    rw [untagPa_cons, if_neg h3, if_pos (by omega), h2]
    rfl
  · rw [if_neg h]
    cases q with
    | nil => simp at h
    | cons y r =>
      rw [untagPa_cons, if_neg h3, if_neg (by omega), h2]
theorem untag_tag (q : Pa) (leaf : Bool) : untag (tag q leaf) = some (q, leaf) := by unfold untag; rw [keyP_tag, untagPa_tag]
theorem tagPa_untag {p q : Pa} {leaf : Bool} (he : p.length % 2 = 0) (h : untagPa p = some (q, leaf)) : tagPa q leaf = p := by
  match p, h with
  | x :: y :: r, h =>
    have hx := x.isLt
    rw [untagPa_cons] at h
    by_cases h3 : 3 < x.val
    · rw [if_pos h3] at h; cases h
    · rw [if_neg h3] at h
      have hx2 : ∀ n, x.val % 2 = n % 2 → tagH n (decide (2 ≤ x.val)) = x := fun n hn => by
        refine Fin.ext ?_
        show n % 2 + (if decide (2 ≤ x.val) = true then 2 else 0) = x.val
        by_cases h2 : 2 ≤ x.val
        · rw [if_pos (decide_eq_true h2)]; omega
        · rw [if_neg (by simpa using h2)]; omega
      simp only [List.length_cons] at he
      by_cases h4 : x.val % 2 = 0
      · rw [if_pos h4] at h
        by_cases h5 : y.val = 0
        · rw [if_pos h5] at h
          cases h
          unfold tagPa
          rw [hx2 _ (by omega), if_pos (by omega)]
          rw [show y = 0 from Fin.ext h5]
        · rw [if_neg h5] at h; cases h
      · rw [if_neg h4] at h
        cases h
        unfold tagPa
        rw [hx2 _ (by simp only [List.length_cons]; omega), if_neg (by simp only [List.length_cons]; omega)]
theorem tag_untag {b : List UInt8} {q : Pa} {leaf : Bool} (h : untag b = some (q, leaf)) : tag q leaf = b := by
  unfold tag
  rw [tagPa_untag (by rw [keyP_len]; omega) h, keyB_P]
structure Shp where
  kind : Int
  path : List UInt8
  value : List UInt8
  kids : List (List UInt8)
abbrev tx (t : List UInt8) : Itm := .mk false t []
abbrev ls (l : List Itm) : Itm := .mk true [] l
def itxt : Itm → List UInt8
  | .mk _ t _ => t
def ilst : Itm → Bool
  | .mk l _ _ => l
def ikds : Itm → List Itm
  | .mk _ _ ks => ks
def sum0 (b : List UInt8) : Bool := decide (b.length = 32) || decide (b.length = 0)
def full (ks : List (List UInt8)) : Nat := (ks.filter fun k => decide (k.length ≠ 0)).length
def itmS (s : Shp) : Option Itm :=
  if s.kind = 0 then some (tx [])
  else if s.kind = 1 then (if halvesB s.path = true ∧ 0 < s.value.length ∧ s.value.length ≤ 1024 then some (ls [tx (tag (pOf s.path) true), tx s.value]) else none)
  else if s.kind = 2 then (if halvesB s.path = true ∧ 0 < s.path.length ∧ s.kids.length = 1 ∧ (s.kids.getD 0 default).length = 32 then some (ls [tx (tag (pOf s.path) false), tx (s.kids.getD 0 default)]) else none)
  else if s.kind = 3 then (if s.kids.length = 16 ∧ s.value.length ≤ 1024 ∧ s.kids.all sum0 = true ∧ 2 ≤ min s.value.length 1 + full s.kids then some (ls (s.kids.map tx ++ [tx s.value])) else none)
  else none
def shp2 (v : List UInt8) : Option (Pa × Bool) → Option Shp
  | none => none
  | some (p, true) => some ⟨1, pB p, v, []⟩
  | some (p, false) => some ⟨2, pB p, [], [v]⟩
def shpI (it : Itm) : Option Shp :=
  if ilst it = false then (if (itxt it).length = 0 then some ⟨0, [], [], []⟩ else none)
  else if (ikds it).any ilst = true then none
  else if (ikds it).length = 17 then some ⟨3, [], itxt ((ikds it).getD 16 default), ((ikds it).take 16).map itxt⟩
  else if (ikds it).length = 2 then shp2 (itxt ((ikds it).getD 1 default)) (untag (itxt ((ikds it).getD 0 default)))
  else none
def readS (code : List UInt8) : Option Shp :=
  match dec code with
  | none => none
  | some it => match shpI it with
    | none => none
    | some s => if (itmS s).isSome = true then some s else none
def normS (s : Shp) : Shp :=
  if s.kind = 0 then ⟨0, [], [], []⟩ else if s.kind = 1 then ⟨1, s.path, s.value, []⟩ else if s.kind = 2 then ⟨2, s.path, [], s.kids⟩ else ⟨3, [], s.value, s.kids⟩
theorem nrmL_map (l : List (List UInt8)) : nrmL (l.map tx) = l.map tx := by
  induction l with
  | nil => rfl
  | cons a r ih => rw [List.map_cons, nrmL, ih]; rfl
theorem nrm_ls (l : List (List UInt8)) : nrm (ls (l.map tx)) = ls (l.map tx) := by unfold ls; rw [nrm, nrmL_map]
theorem any_tx (l : List (List UInt8)) : (l.map tx).any ilst = false := by
  rw [List.any_map, List.any_eq_false]
  intro x _
  simp [ilst]
theorem map_itxt (l : List (List UInt8)) : (l.map tx).map itxt = l := by
  rw [List.map_map]
  conv => rhs; rw [← List.map_id l]
  exact List.map_congr_left fun x _ => rfl
theorem getD_tx (l : List (List UInt8)) (i : Nat) (h : i < l.length) : itxt ((l.map tx).getD i default) = l.getD i default := by
  rw [List.getD_eq_getElem?_getD, List.getElem?_map, List.getElem?_eq_getElem h, List.getD_eq_getElem?_getD, List.getElem?_eq_getElem h]
  rfl
theorem itmS_list {s : Shp} {it : Itm} (h : itmS s = some it) : (s.kind = 0 ∧ it = tx []) ∨ ∃ l : List (List UInt8), it = ls (l.map tx) ∧ (s.kind = 1 ∧ l = [tag (pOf s.path) true, s.value] ∧ halvesB s.path = true ∧ 0 < s.value.length ∧ s.value.length ≤ 1024 ∨ s.kind = 2 ∧ l = [tag (pOf s.path) false, s.kids.getD 0 default] ∧ halvesB s.path = true ∧ 0 < s.path.length ∧ s.kids.length = 1 ∧ (s.kids.getD 0 default).length = 32 ∨ s.kind = 3 ∧ l = s.kids ++ [s.value] ∧ s.kids.length = 16 ∧ s.value.length ≤ 1024 ∧ s.kids.all sum0 = true ∧ 2 ≤ min s.value.length 1 + full s.kids) := by
  unfold itmS at h
  split at h
  · rename_i k; cases h; exact .inl ⟨k, rfl⟩
  · split at h
    · rename_i k
      split at h
      · rename_i c; cases h; exact .inr ⟨_, rfl, .inl ⟨k, rfl, c⟩⟩
      · cases h
    · split at h
      · rename_i k
        split at h
        · rename_i c; cases h; exact .inr ⟨_, rfl, .inr (.inl ⟨k, rfl, c⟩)⟩
        · cases h
      · split at h
        · rename_i k
          split at h
          · rename_i c; cases h; exact .inr ⟨s.kids ++ [s.value], by rw [List.map_append]; rfl, .inr (.inr ⟨k, rfl, c⟩)⟩
          · cases h
        · cases h
theorem itmS_nrm {s : Shp} {it : Itm} (h : itmS s = some it) : nrm it = it := by
  rcases itmS_list h with ⟨_, rfl⟩ | ⟨l, rfl, _⟩
  · rfl
  · exact nrm_ls l
theorem ilst_ls (l : List Itm) : ilst (ls l) = true := rfl
theorem ikds_ls (l : List Itm) : ikds (ls l) = l := rfl
theorem len_one {l : List (List UInt8)} (h : l.length = 1) : [l.getD 0 default] = l := by
  match l, h with
  | [x], _ => rfl
theorem shp_itm {s : Shp} {it : Itm} (h : itmS s = some it) : shpI it = some (normS s) ∧ itmS (normS s) = some it ∧ (normS s).kind = s.kind := by
  have h0 := h
  rcases itmS_list h with ⟨k, rfl⟩ | ⟨l, rfl, ⟨k, rfl, c⟩ | ⟨k, rfl, c⟩ | ⟨k, rfl, c⟩⟩
  · unfold normS
    rw [if_pos k]
    exact ⟨rfl, by unfold itmS; rw [if_pos rfl], k.symm⟩
  · have e : normS s = ⟨1, s.path, s.value, []⟩ := by unfold normS; rw [if_neg (by omega), if_pos k]
    rw [e]
    refine ⟨?_, ?_, k.symm⟩
    · unfold shpI
      rw [ilst_ls, ikds_ls, any_tx]
      simp only [List.map_cons, List.map_nil, List.length_cons, List.length_nil]
      rw [if_neg (by decide), if_neg (by decide), if_neg (by decide), if_pos trivial]
      show shp2 s.value (untag (tag (pOf s.path) true)) = _
      rw [untag_tag, shp2, pB_of c.1]
    · rw [← h0]
      unfold itmS
      simp only [k, Int.reduceEq, if_true, if_false]
  · have e : normS s = ⟨2, s.path, [], s.kids⟩ := by unfold normS; rw [if_neg (by omega), if_neg (by omega), if_pos k]
    rw [e]
    refine ⟨?_, ?_, k.symm⟩
    · unfold shpI
      rw [ilst_ls, ikds_ls, any_tx]
      simp only [List.map_cons, List.map_nil, List.length_cons, List.length_nil]
      rw [if_neg (by decide), if_neg (by decide), if_neg (by decide), if_pos trivial]
      show shp2 (s.kids.getD 0 default) (untag (tag (pOf s.path) false)) = _
      rw [untag_tag, shp2, pB_of c.1, len_one c.2.2.1]
    · rw [← h0]
      unfold itmS
      simp only [k, Int.reduceEq, if_true, if_false]
  · have e : normS s = ⟨3, [], s.value, s.kids⟩ := by unfold normS; rw [if_neg (by omega), if_neg (by omega), if_neg (by omega)]
    rw [e]
    have hl : (s.kids ++ [s.value]).length = 17 := by rw [List.length_append, c.1]; rfl
    refine ⟨?_, ?_, k.symm⟩
    · unfold shpI
      rw [ilst_ls, ikds_ls, any_tx, List.length_map, hl]
      rw [if_neg (by decide), if_neg (by decide), if_pos rfl, getD_tx _ _ (by omega), List.map_append, List.take_left' (by rw [List.length_map]; exact c.1), map_itxt]
      rw [List.getD_eq_getElem?_getD, List.getElem?_append_right (by omega), c.1]
      rfl
    · rw [← h0]
      unfold itmS
      simp only [k, Int.reduceEq, if_true, if_false]
theorem not_list {l : List Itm} (hn : nrmL l = l) (ha : l.any ilst = false) : ∃ ts : List (List UInt8), l = ts.map tx := by
  induction l with
  | nil => exact ⟨[], rfl⟩
  | cons a r ih =>
    rw [nrmL] at hn
    injection hn with h1 h2
    rw [List.any_cons, Bool.or_eq_false_iff] at ha
    obtain ⟨ts, rfl⟩ := ih h2 ha.2
    obtain ⟨b, t, ks⟩ := a
    have hb : b = false := ha.1
    subst hb
    rw [nrm] at h1
    exact ⟨t :: ts, by rw [List.map_cons]; unfold tx; rw [← h1]⟩
theorem itm_shp {it it' : Itm} {s : Shp} (hn : nrm it = it) (h : shpI it = some s) (h' : itmS s = some it') : it' = it ∧ normS s = s := by
  obtain ⟨b, t, ks⟩ := it
  unfold shpI at h
  cases b with
  | false =>
    rw [if_pos (show ilst (.mk false t ks) = false from rfl)] at h
    split at h
    · rename_i ht
      cases h
      have ht' : t = [] := List.eq_nil_of_length_eq_zero ht
      subst ht'
      unfold itmS at h'
      rw [if_pos rfl] at h'
      cases h'
      rw [nrm] at hn
      exact ⟨hn, rfl⟩
    · cases h
  | true =>
    rw [if_neg (by simp [ilst])] at h
    rw [nrm] at hn
    injection hn with _ hn1 hn2
    subst hn1
    by_cases ha : ks.any ilst = true
    · rw [show ikds (.mk true [] ks) = ks from rfl, if_pos ha] at h; cases h
    rw [show ikds (.mk true [] ks) = ks from rfl, if_neg ha] at h
    obtain ⟨ts, rfl⟩ := not_list hn2 (by simpa using ha)
    by_cases h17 : (ts.map tx).length = 17
    · rw [if_pos h17] at h
      cases h
      rw [List.length_map] at h17
      unfold itmS at h'
      simp only [Int.reduceEq, if_true, if_false] at h'
      split at h'
      · cases h'
        refine ⟨?_, ?_⟩
        · show ls _ = ls _
          congr 1
          rw [getD_tx _ _ (by omega), ← List.map_take, map_itxt, ← List.map_singleton (f := tx), ← List.map_append]
          congr 1
          apply List.ext_getElem?
          intro j
          rcases Nat.lt_or_ge j 16 with hj | hj
          · rw [List.getElem?_append_left (by rw [List.length_take]; omega), List.getElem?_take, if_pos hj]
          · rw [List.getElem?_append_right (by rw [List.length_take]; omega), List.length_take, show min 16 ts.length = 16 by omega]
            rcases Nat.eq_or_lt_of_le hj with hj | hj
            · subst hj
              rw [List.getD_eq_getElem?_getD, List.getElem?_eq_getElem (show 16 < ts.length by omega)]
              rfl
            · rw [List.getElem?_eq_none (by simp; omega), List.getElem?_eq_none (by omega)]
        · rfl
      · cases h'
    · rw [if_neg h17] at h
      by_cases h2 : (ts.map tx).length = 2
      · rw [if_pos h2] at h
        rw [List.length_map] at h2
        match ts, h2 with
        | [a, b], _ =>
          rw [show itxt ((List.map tx [a, b]).getD 0 default) = a from rfl, show itxt ((List.map tx [a, b]).getD 1 default) = b from rfl] at h
          cases hu : untag a with
          | none => rw [hu] at h; cases h
          | some x =>
            obtain ⟨p, leaf⟩ := x
            rw [hu] at h
            cases leaf with
            | true =>
              cases h
              unfold itmS at h'
              simp only [Int.reduceEq, if_true, if_false] at h'
              split at h'
              · cases h'
                rw [pOf_B, tag_untag hu]
                exact ⟨rfl, rfl⟩
              · cases h'
            | false =>
              cases h
              unfold itmS at h'
              simp only [Int.reduceEq, if_true, if_false] at h'
              split at h'
              · cases h'
                rw [pOf_B, tag_untag hu]
                exact ⟨rfl, rfl⟩
              · cases h'
      · rw [if_neg h2] at h; cases h
theorem dec_nrm' {b : List UInt8} {k : Itm} (h : dec b = some k) : nrm k = k := by
  unfold dec at h
  cases hr : rd b with
  | none => rw [hr] at h; cases h
  | some x =>
    obtain ⟨k', r⟩ := x
    rw [hr] at h
    cases r with
    | cons => cases h
    | nil => cases h; exact ((rd_uniq b.length).1 b [] k (Nat.le_refl _) hr).2
theorem read_code {s : Shp} {it : Itm} (h : itmS s = some it) (hl : (enc it).length < 2 ^ 64) : readS (enc it) = some (normS s) := by
  obtain ⟨h1, h2, h3⟩ := shp_itm h
  unfold readS
  rw [dec_enc hl, itmS_nrm h]
  simp only []
  rw [h1]
  simp only []
  rw [h2]
  rfl
theorem code_read {code : List UInt8} {s : Shp} (h : readS code = some s) : ∃ it, itmS s = some it ∧ enc it = code ∧ normS s = s := by
  unfold readS at h
  cases hd : dec code with
  | none => rw [hd] at h; cases h
  | some it =>
    rw [hd] at h
    simp only [] at h
    cases hs : shpI it with
    | none => rw [hs] at h; cases h
    | some s' =>
      rw [hs] at h
      simp only [] at h
      split at h
      · rename_i hi
        cases h
        obtain ⟨it', hi'⟩ := Option.isSome_iff_exists.1 hi
        obtain ⟨rfl, e⟩ := itm_shp (dec_nrm' hd) hs hi'
        exact ⟨it', hi', (dec_uniq hd).symm, e⟩
      · cases h
end Ro
set_option maxRecDepth 100000
namespace Ro
open Tr Pk
section
variable (S : List UInt8 → List UInt8)
def nItm : Nd → Itm
  | .no => tx []
  | .leaf p v => ls [tx (tag p true), tx v]
  | .road p k => ls [tx (tag p false), tx (S (enc (nItm k)))]
  | .fork ks v => ls (((List.finRange 16).map fun i => tx (if isNo (ks i) = true then [] else S (enc (nItm (ks i))))) ++ [tx v])
def hcode (n : Nd) : List UInt8 := enc (nItm S n)
def ksum (n : Nd) : List UInt8 := if isNo n = true then [] else S (hcode S n)
def ksums (ks : Fin 16 → Nd) : List (List UInt8) := (List.finRange 16).map fun i => ksum S (ks i)
def shpN : Nd → Shp
  | .no => ⟨0, [], [], []⟩
  | .leaf p v => ⟨1, pB p, v, []⟩
  | .road p k => ⟨2, pB p, [], [S (hcode S k)]⟩
  | .fork ks v => ⟨3, [], v, ksums S ks⟩
def cds : Nd → List (List UInt8)
  | .no => [hcode S .no]
  | .leaf p v => [hcode S (.leaf p v)]
  | .road p k => hcode S (.road p k) :: cds k
  | .fork ks v => hcode S (.fork ks v) :: (List.finRange 16).flatMap fun i => if isNo (ks i) = true then [] else cds (ks i)
def kcds (n : Nd) : List (List UInt8) := if isNo n = true then [] else cds S n
theorem cds_road (p : Pa) (k : Nd) : cds S (.road p k) = hcode S (.road p k) :: cds S k := by rw [cds]
theorem cds_fork (ks : Fin 16 → Nd) (v : List UInt8) : cds S (.fork ks v) = hcode S (.fork ks v) :: (List.finRange 16).flatMap fun i => kcds S (ks i) := by rw [cds]; rfl
theorem cds_head (n : Nd) : ∃ r, cds S n = hcode S n :: r := by
  cases n <;> simp only [cds] <;> exact ⟨_, rfl⟩
theorem mem_head (n : Nd) : hcode S n ∈ cds S n := by
  obtain ⟨r, h⟩ := cds_head S n
  rw [h]; exact List.mem_cons_self ..
theorem mem_kid {ks : Fin 16 → Nd} {v : List UInt8} {i : Fin 16} (h : ks i ≠ .no) {c : List UInt8} (hc : c ∈ cds S (ks i)) : c ∈ cds S (.fork ks v) := by
  rw [cds_fork]
  refine List.mem_cons_of_mem _ (List.mem_flatMap.2 ⟨i, List.mem_finRange i, ?_⟩)
  unfold kcds
  rw [if_neg (by rw [Bool.not_eq_true]; exact isNo_ne.2 h)]
  exact hc
theorem nItm_fork (ks : Fin 16 → Nd) (v : List UInt8) : nItm S (.fork ks v) = ls ((ksums S ks ++ [v]).map tx) := by
  rw [nItm, List.map_append]
  unfold ksums
  rw [List.map_map]
  congr 1
theorem ksums_len (ks : Fin 16 → Nd) : (ksums S ks).length = 16 := by unfold ksums; rw [List.length_map, List.length_finRange]
theorem ksums_get (ks : Fin 16 → Nd) (i : Fin 16) : (ksums S ks).getD i.val default = ksum S (ks i) := by
  unfold ksums
  rw [List.getD_eq_getElem?_getD, List.getElem?_map, List.getElem?_eq_getElem (by simp)]
  simp
variable (hS : ∀ b, (S b).length = 32)
include hS
theorem ksum_no {n : Nd} : (ksum S n).length = 0 ↔ n = .no := by
  unfold ksum
  split
  · rename_i h; simp [isNo_eq.1 h]
  · rename_i h
    rw [hS]
    exact ⟨fun e => by omega, fun e => absurd (isNo_eq.2 e) h⟩
theorem full_ksums {ks : Fin 16 → Nd} {v : List UInt8} (h : Two ks v) : 2 ≤ min v.length 1 + full (ksums S ks) := by
  have h1 := many_of h
  have e : full (ksums S ks) = many ((List.finRange 16).map fun i => ofN (ks i)) := by
    unfold full many ksums
    rw [List.filter_map, List.length_map, List.filter_map, List.length_map]
    congr 1
    refine List.filter_congr fun i _ => ?_
    exact decide_eq_decide.2 (not_congr ((ksum_no S hS (n := ks i)).trans (kind_of (ks i)).symm))
  rw [e]
  exact h1
theorem itm_shpN {n : Nd} {d : Nat} (h : Right n d) : itmS (shpN S n) = some (nItm S n) := by
  cases n with
  | no => rfl
  | leaf p v =>
    unfold itmS shpN
    simp only [Int.reduceEq, if_true, if_false]
    rw [if_pos ⟨halves_pB p, List.length_pos_iff.2 h.2.1, h.2.2⟩, pOf_B, nItm]
  | road p k =>
    unfold itmS shpN
    simp only [Int.reduceEq, if_true, if_false]
    rw [if_pos ⟨halves_pB p, by rw [pB_len]; exact List.length_pos_iff.2 h.1, rfl, hS _⟩, pOf_B, nItm]
    rfl
  | fork ks v =>
    unfold itmS shpN
    simp only [Int.reduceEq, if_true, if_false]
    have hall : (ksums S ks).all sum0 = true := by
      rw [List.all_eq_true]
      intro x hx
      obtain ⟨i, _, rfl⟩ := List.mem_map.1 hx
      unfold sum0 ksum
      split
      · rfl
      · rw [hS]; rfl
    rw [if_pos ⟨ksums_len S ks, h.1, hall, full_ksums S hS h.2.2.2⟩, nItm_fork, List.map_append]
    rfl
omit hS in
theorem norm_shpN (n : Nd) : normS (shpN S n) = shpN S n := by
  cases n <;> rfl
omit hS in
theorem sizeL_tx (l : List (List UInt8)) (m : Nat) (h : ∀ t ∈ l, t.length ≤ m) : Itm.sizeL (l.map tx) ≤ l.length * (m + 2) := by
  induction l with
  | nil => exact Nat.zero_le _
  | cons a r ih =>
    rw [List.map_cons, Itm.sizeL, List.length_cons, Nat.succ_mul]
    have h1 := h a (by simp)
    have h2 := ih fun t ht => h t (by simp [ht])
    have h3 : (tx a).size = 1 + a.length + 0 := rfl
    omega
omit hS in
theorem ls_size (l : List (List UInt8)) (m : Nat) (h : ∀ t ∈ l, t.length ≤ m) : (ls (l.map tx)).size ≤ 1 + l.length * (m + 2) := by
  unfold ls
  rw [Itm.size]
  have := sizeL_tx l m h
  simp only [List.length_nil]; omega
omit hS in
theorem leaf_deep {p : Pa} {v : List UInt8} {d : Nat} (h : Right (.leaf p v) d) : d + p.length ≤ 64 := h.1.2
omit hS in
theorem right_deep {n : Nd} {d : Nat} (h : Right n d) (hn : n ≠ .no) : d ≤ 64 := by
  induction n generalizing d with
  | no => exact absurd rfl hn
  | leaf p v => have := h.1.2; omega
  | road p k ih =>
    have := ih h.2.2 (fun e => by have h2 := h.2.1; rw [e] at h2; cases h2)
    omega
  | fork ks v ih =>
    rcases h.2.2.2 with ⟨h1, _⟩ | ⟨i, _, _, h1, _⟩
    · exact (h.2.1 h1).2
    · have := ih i (h.2.2.1 i) h1
      omega
omit hS in
theorem path_deep {p : Pa} {k : Nd} {d : Nat} (h : Right (.road p k) d) : d + p.length ≤ 64 := by
  obtain ⟨ks, v, rfl⟩ := fork_is h.2.1
  exact right_deep h.2.2 (fun e => by cases e)
theorem nItm_size {n : Nd} {d : Nat} (h : Right n d) : (nItm S n).size ≤ 18000 := by
  cases n with
  | no => exact (by decide : 1 ≤ 18000)
  | leaf p v =>
    have h1 := leaf_deep h
    have h2 := tag_len p true
    have := ls_size [tag p true, v] 1024 (fun t ht => by
      simp only [List.mem_cons, List.not_mem_nil, or_false] at ht
      rcases ht with rfl | rfl
      · omega
      · exact h.2.2)
    exact Nat.le_trans this (show 1 + 2 * (1024 + 2) ≤ 18000 by omega)
  | road p k =>
    have h1 := path_deep h
    have h2 := tag_len p false
    have := ls_size [tag p false, S (enc (nItm S k))] 1024 (fun t ht => by
      simp only [List.mem_cons, List.not_mem_nil, or_false] at ht
      rcases ht with rfl | rfl
      · omega
      · rw [hS]; omega)
    exact Nat.le_trans this (show 1 + 2 * (1024 + 2) ≤ 18000 by omega)
  | fork ks v =>
    rw [nItm_fork]
    have := ls_size (ksums S ks ++ [v]) 1024 (fun t ht => by
      rcases List.mem_append.1 ht with ht | ht
      · obtain ⟨i, _, rfl⟩ := List.mem_map.1 ht
        unfold ksum
        split
        · simp
        · rw [hS]; omega
      · rw [List.mem_singleton] at ht; subst ht; exact h.1)
    rw [List.length_append, ksums_len] at this
    exact Nat.le_trans this (show 1 + (16 + 1) * (1024 + 2) ≤ 18000 by omega)
theorem hcode_len {n : Nd} {d : Nat} (h : Right n d) : (hcode S n).length ≤ 200000 := by
  have h1 := nItm_size S hS h
  have := enc_len (nItm S n) (by omega)
  unfold hcode
  omega
theorem read_hcode {n : Nd} {d : Nat} (h : Right n d) : readS (hcode S n) = some (shpN S n) := by
  have h1 := hcode_len S hS h
  have := read_code (itm_shpN S hS h) (by unfold hcode at h1; omega)
  rwa [norm_shpN S] at this
theorem apart : ∀ (a b : Nd) (d d' : Nat), Right a d → Right b d' → (∀ x ∈ cds S a, ∀ y ∈ cds S b, S x = S y → x = y) → S (hcode S a) = S (hcode S b) → a = b := by
  intro a
  have step : ∀ (a b : Nd) (d d' : Nat), Right a d → Right b d' → (∀ x ∈ cds S a, ∀ y ∈ cds S b, S x = S y → x = y) → S (hcode S a) = S (hcode S b) → shpN S a = shpN S b := fun a b d d' ha hb hc h => by
    have e := hc _ (mem_head S a) _ (mem_head S b) h
    have h1 := read_hcode S hS ha
    rw [e, read_hcode S hS hb] at h1
    exact (Option.some.inj h1).symm
  induction a with
  | no =>
    intro b d d' ha hb hc h
    have := congrArg Shp.kind (step _ _ _ _ ha hb hc h)
    cases b <;> first | rfl | (exfalso; revert this; simp [shpN])
  | leaf p v =>
    intro b d d' ha hb hc h
    have e := step _ _ _ _ ha hb hc h
    cases b with
    | leaf p' v' =>
      simp only [shpN, Shp.mk.injEq] at e
      rw [pB_inj e.2.1, e.2.2.1]
    | no => simp [shpN] at e
    | road p' k' => simp [shpN] at e
    | fork ks' v' => simp [shpN] at e
  | road p k ih =>
    intro b d d' ha hb hc h
    have e := step _ _ _ _ ha hb hc h
    cases b with
    | road p' k' =>
      simp only [shpN, Shp.mk.injEq, List.cons.injEq, and_true, true_and] at e
      rw [pB_inj e.1, ih k' _ _ ha.2.2 hb.2.2 (fun x hx y hy => hc x (by rw [cds_road]; exact List.mem_cons_of_mem _ hx) y (by rw [cds_road]; exact List.mem_cons_of_mem _ hy)) e.2]
    | no => simp [shpN] at e
    | leaf p' k' => simp [shpN] at e
    | fork ks' v' => simp [shpN] at e
  | fork ks v ih =>
    intro b d d' ha hb hc h
    have e := step _ _ _ _ ha hb hc h
    cases b with
    | fork ks' v' =>
      simp only [shpN, Shp.mk.injEq, true_and] at e
      obtain ⟨e1, e2⟩ := e
      rw [e1]
      congr 1
      funext i
      have e3 : ksum S (ks i) = ksum S (ks' i) := by rw [← ksums_get, ← ksums_get, e2]
      by_cases h1 : ks i = .no
      · have h2 := (ksum_no S hS (n := ks i)).2 h1
        rw [e3] at h2
        rw [h1, (ksum_no S hS).1 h2]
      · by_cases h2 : ks' i = .no
        · have h3 := (ksum_no S hS (n := ks' i)).2 h2
          rw [← e3] at h3
          exact absurd ((ksum_no S hS).1 h3) h1
        · unfold ksum at e3
          rw [if_neg (fun e => h1 (isNo_eq.1 e)), if_neg (fun e => h2 (isNo_eq.1 e))] at e3
          exact ih i (ks' i) _ _ (ha.2.2.1 i) (hb.2.2.1 i) (fun x hx y hy => hc x (mem_kid S h1 hx) y (mem_kid S h2 hy)) e3
    | no => simp [shpN] at e
    | leaf p' k' => simp [shpN] at e
    | road ks' v' => simp [shpN] at e
end
end Ro
set_option maxRecDepth 100000
namespace Ro
open Tr Pk
section
variable (S : List UInt8 → List UInt8)
def nxN : Nd → Pa → Option (Nd × Pa)
  | .road p k, q => (rest p q).map fun r => (k, r)
  | .fork ks _, x :: q => if isNo (ks x) = true then none else some (ks x, q)
  | _, _ => none
theorem nxN_road (p : Pa) (k : Nd) (q : Pa) : nxN (.road p k) q = (rest p q).map fun r => (k, r) := rfl
theorem nxN_fork (ks : Fin 16 → Nd) (v : List UInt8) (x : Fin 16) (q : Pa) : nxN (.fork ks v) (x :: q) = if isNo (ks x) = true then none else some (ks x, q) := rfl
def vlN : Nd → Pa → List UInt8
  | .leaf p v, q => if p = q then v else []
  | .fork _ v, [] => v
  | _, _ => []
def nxS (s : Shp) (p : List UInt8) : List UInt8 × List UInt8 × List UInt8 :=
  if s.kind = 1 then (if s.path = p then ([], [], s.value) else ([], [], []))
  else if s.kind = 2 then (match rest (pOf s.path) (pOf p) with
    | some r => (s.kids.getD 0 default, pB r, [])
    | none => ([], [], []))
  else if s.kind = 3 then (match p with
    | [] => ([], [], s.value)
    | x :: r => (s.kids.getD x.toNat default, r, []))
  else ([], [], [])
def ck : List (List UInt8) → Bool → List UInt8 → List UInt8 → Nat × List UInt8
  | [], _, _, _ => (5, [])
  | c :: r, first, h, p =>
    if S c = h then
      (match readS c with
      | none => (1, [])
      | some s => if s.kind = 0 ∧ first = false then (1, []) else
        if (nxS s p).1.length = 0 then (if r = [] then (0, (nxS s p).2.2) else (6, [])) else ck r false (nxS s p).1 (nxS s p).2.1)
    else (4, [])
def way : Nat → Nd → Pa → List (List UInt8)
  | 0, _, _ => []
  | f + 1, n, q => hcode S n :: (match nxN n q with
    | some (k, r) => way f k r
    | none => [])
theorem nxN_right {n k : Nd} {q r : Pa} {d : Nat} (hr : Right n d) (h : nxN n q = some (k, r)) : ∃ d', d < d' ∧ Right k d' ∧ k ≠ .no ∧ r.length < q.length ∧ d' + r.length = d + q.length ∧ Tr.get n q = Tr.get k r ∧ ∀ c ∈ cds S k, c ∈ cds S n := by
  cases n with
  | no => cases h
  | leaf p v => cases h
  | road p k' =>
    rw [nxN_road] at h
    cases hq : rest p q with
    | none => rw [hq] at h; cases h
    | some r' =>
      rw [hq] at h
      cases h
      have e := rest_some hq
      have hp := List.length_pos_iff.2 hr.1
      obtain ⟨ks, v, hk⟩ := fork_is hr.2.1
      refine ⟨_, by omega, hr.2.2, fun e => (by rw [e] at hk; cases hk), by rw [e, List.length_append]; omega, by rw [e, List.length_append]; omega, ?_, fun c hc => ?_⟩
      · rw [e, get_road]
      · rw [cds_road]; exact List.mem_cons_of_mem _ hc
  | fork ks v =>
    cases q with
    | nil => cases h
    | cons x q =>
      rw [nxN_fork] at h
      split at h
      · cases h
      · rename_i hno
        cases h
        exact ⟨_, Nat.lt_succ_self d, hr.2.2.1 x, fun e => hno (isNo_eq.2 e), by simp, by simp; omega, rfl, fun c hc => mem_kid S (fun e => hno (isNo_eq.2 e)) hc⟩
theorem nxN_none {n : Nd} {q : Pa} (h : nxN n q = none) : Tr.get n q = vlN n q := by
  cases n with
  | no => rfl
  | leaf p v => rfl
  | road p k =>
    rw [nxN_road] at h
    unfold Tr.get
    cases hq : rest p q with
    | none => rfl
    | some r => rw [hq] at h; cases h
  | fork ks v =>
    cases q with
    | nil => rfl
    | cons x q =>
      rw [nxN_fork] at h
      split at h
      · rename_i hno
        unfold Tr.get
        rw [isNo_eq.1 hno]
        rfl
      · cases h
variable (hS : ∀ b, (S b).length = 32)
include hS
omit hS in
theorem nxS_shp (n : Nd) (q : Pa) : (∀ k r, nxN n q = some (k, r) → nxS (shpN S n) (pB q) = (S (hcode S k), pB r, [])) ∧ (nxN n q = none → (nxS (shpN S n) (pB q)).1.length = 0 ∧ (nxS (shpN S n) (pB q)).2.2 = vlN n q) := by
  cases n with
  | no => exact ⟨fun k r h => (by cases h), fun _ => ⟨rfl, rfl⟩⟩
  | leaf p v =>
    refine ⟨fun k r h => (by cases h), fun _ => ?_⟩
    unfold nxS shpN vlN
    simp only [if_true]
    by_cases h : p = q
    · subst h; simp
    · rw [if_neg (fun e => h (pB_inj e)), if_neg h]; exact ⟨rfl, rfl⟩
  | road p k' =>
    rw [nxN_road]
    unfold nxS shpN
    simp only [Int.reduceEq, if_true, if_false, pOf_B]
    cases hq : rest p q with
    | none => exact ⟨fun k r h => (by cases h), fun _ => ⟨rfl, rfl⟩⟩
    | some r' => exact ⟨fun k r h => (by cases h; rfl), fun h => (by cases h)⟩
  | fork ks v =>
    unfold nxS shpN
    simp only [Int.reduceEq, if_true, if_false]
    cases q with
    | nil => exact ⟨fun k r h => (by cases h), fun _ => ⟨rfl, rfl⟩⟩
    | cons x q =>
      have hg : (ksums S ks).getD (UInt8.ofNat x.val).toNat default = ksum S (ks x) := by rw [half_byte, ksums_get]
      rw [nxN_fork]
      simp only [show pB (x :: q) = UInt8.ofNat x.val :: pB q from rfl, hg]
      unfold ksum
      by_cases hno : isNo (ks x) = true
      · rw [if_pos hno, if_pos hno]
        refine ⟨fun k r h => (by cases h), fun _ => ⟨rfl, rfl⟩⟩
      · rw [if_neg hno, if_neg hno]
        exact ⟨fun k r h => (by cases h; rfl), fun h => (by cases h)⟩
omit hS in
theorem kind_shp {n : Nd} (h : n ≠ .no) : (shpN S n).kind ≠ 0 := by
  cases n <;> first | exact absurd rfl h | simp [shpN]
theorem ck_way : ∀ (f : Nat) (n : Nd) (q : Pa) (d : Nat) (first : Bool), Right n d → (first = false → n ≠ .no) → q.length < f → ck S (way S f n q) first (S (hcode S n)) (pB q) = (0, Tr.get n q) := by
  intro f
  induction f with
  | zero => intro n q d first _ _ h; omega
  | succ f ih =>
    intro n q d first hr hf hq
    unfold way ck
    rw [if_pos rfl, read_hcode S hS hr]
    simp only []
    rw [if_neg (fun e => kind_shp S (hf e.2) e.1)]
    obtain ⟨k1, k2⟩ := nxS_shp S n q
    cases hn : nxN n q with
    | none =>
      obtain ⟨e1, e2⟩ := k2 hn
      simp only []
      rw [if_pos e1, if_pos trivial, e2, nxN_none hn]
    | some x =>
      obtain ⟨k, r⟩ := x
      have e := k1 k r hn
      obtain ⟨d', _, h2, h3, h4, _, h6, _⟩ := nxN_right S hr hn
      simp only [e]
      rw [if_neg (by rw [hS]; omega), ih k r d' false h2 (fun _ => h3) (by omega), h6]
theorem ck_true : ∀ (f : Nat) (n : Nd) (q : Pa) (d : Nat) (first : Bool) (cs : List (List UInt8)) (v : List UInt8), Right n d → (first = false → n ≠ .no) → q.length < f → (∀ x ∈ cs, ∀ y ∈ way S f n q, S x = S y → x = y) → ck S cs first (S (hcode S n)) (pB q) = (0, v) → v = Tr.get n q ∧ cs = way S f n q := by
  intro f
  induction f with
  | zero => intro n q d first cs v _ _ h; omega
  | succ f ih =>
    intro n q d first cs v hr hf hq hc h
    cases cs with
    | nil => unfold ck at h; cases h
    | cons c cs =>
      unfold ck at h
      split at h
      case isFalse => cases h
      rename_i hs
      have e : c = hcode S n := hc c (by simp) _ (by unfold way; exact List.mem_cons_self ..) hs
      subst e
      rw [read_hcode S hS hr] at h
      simp only [] at h
      rw [if_neg (fun e => kind_shp S (hf e.2) e.1)] at h
      obtain ⟨k1, k2⟩ := nxS_shp S n q
      unfold way at hc ⊢
      cases hn : nxN n q with
      | none =>
        obtain ⟨e1, e2⟩ := k2 hn
        rw [if_pos e1] at h
        split at h
        · rename_i hcs
          cases h
          exact ⟨by rw [e2, nxN_none hn], by rw [hcs]⟩
        · cases h
      | some x =>
        obtain ⟨k, r⟩ := x
        have e := k1 k r hn
        obtain ⟨d', _, h2, h3, h4, _, h6, _⟩ := nxN_right S hr hn
        simp only [e] at h
        rw [if_neg (by rw [hS]; omega)] at h
        simp only [hn] at hc ⊢
        obtain ⟨g1, g2⟩ := ih k r d' false cs v h2 (fun _ => h3) (by omega) (fun x hx y hy => hc x (by simp [hx]) y (by simp [hy])) h
        exact ⟨by rw [h6]; exact g1, by rw [g2]⟩
theorem ck_less : ∀ (f : Nat) (n : Nd) (q : Pa) (d : Nat) (first : Bool), Right n d → (first = false → n ≠ .no) → q.length < f → ck S (way S f n q).dropLast first (S (hcode S n)) (pB q) = (5, []) := by
  intro f
  induction f with
  | zero => intro n q d first _ _ h; omega
  | succ f ih =>
    intro n q d first hr hf hq
    unfold way
    obtain ⟨k1, k2⟩ := nxS_shp S n q
    cases hn : nxN n q with
    | none => rfl
    | some x =>
      obtain ⟨k, r⟩ := x
      have e := k1 k r hn
      obtain ⟨d', _, h2, h3, h4, _, h6, _⟩ := nxN_right S hr hn
      simp only []
      have hne : way S f k r ≠ [] := by
        obtain ⟨f, rfl⟩ : ∃ k, f = k + 1 := ⟨f - 1, by omega⟩
        unfold way; exact List.cons_ne_nil _ _
      rw [List.dropLast_cons_of_ne_nil hne]
      unfold ck
      rw [if_pos rfl, read_hcode S hS hr]
      simp only []
      rw [if_neg (fun e => kind_shp S (hf e.2) e.1)]
      simp only [e]
      rw [if_neg (by rw [hS]; omega), ih k r d' false h2 (fun _ => h3) (by omega)]
theorem ck_more (m : List UInt8) : ∀ (f : Nat) (n : Nd) (q : Pa) (d : Nat) (first : Bool), Right n d → (first = false → n ≠ .no) → q.length < f → ck S (way S f n q ++ [m]) first (S (hcode S n)) (pB q) = (6, []) := by
  intro f
  induction f with
  | zero => intro n q d first _ _ h; omega
  | succ f ih =>
    intro n q d first hr hf hq
    unfold way
    rw [List.cons_append]
    unfold ck
    rw [if_pos rfl, read_hcode S hS hr]
    simp only []
    rw [if_neg (fun e => kind_shp S (hf e.2) e.1)]
    obtain ⟨k1, k2⟩ := nxS_shp S n q
    cases hn : nxN n q with
    | none =>
      obtain ⟨e1, e2⟩ := k2 hn
      simp only []
      rw [if_pos e1, if_neg (by simp)]
    | some x =>
      obtain ⟨k, r⟩ := x
      have e := k1 k r hn
      obtain ⟨d', _, h2, h3, h4, _, h6, _⟩ := nxN_right S hr hn
      simp only [e]
      rw [if_neg (by rw [hS]; omega), ih k r d' false h2 (fun _ => h3) (by omega)]
omit hS in
theorem way_mem : ∀ (f : Nat) (n : Nd) (q : Pa) (d : Nat), Right n d → ∀ c ∈ way S f n q, c ∈ cds S n := by
  intro f
  induction f with
  | zero => intro n q d _ c hc; cases hc
  | succ f ih =>
    intro n q d hr c hc
    unfold way at hc
    rcases List.mem_cons.1 hc with e | e
    · rw [e]; exact mem_head S n
    · cases hn : nxN n q with
      | none => rw [hn] at e; cases e
      | some x =>
        obtain ⟨k, r⟩ := x
        rw [hn] at e
        obtain ⟨d', _, h2, _, _, _, _, h7⟩ := nxN_right S hr hn
        exact h7 c (ih k r d' h2 c e)
omit hS in
theorem way_len : ∀ (f : Nat) (n : Nd) (q : Pa), (way S f n q).length ≤ f := by
  intro f
  induction f with
  | zero => intro n q; exact Nat.le_refl _
  | succ f ih =>
    intro n q
    unfold way
    rw [List.length_cons]
    cases nxN n q with
    | none => simp
    | some x => have := ih x.1 x.2; simp only []; omega
end
end Ro
set_option maxRecDepth 100000
namespace Ro
open Tr Pk
def ldK (g : List UInt8 → Nat → Rn × Nat × Nat) : List (List UInt8) → Nat → List Rn × Nat × Nat
  | [], m => ([], 0, m)
  | k :: r, m =>
    if k.length = 0 then (Rn.no :: (ldK g r m).1, (ldK g r m).2)
    else if (g k m).2.1 = 0 then ((g k m).1 :: (ldK g r (g k m).2.2).1, (ldK g r (g k m).2.2).2)
    else ([], (g k m).2)
def dpS (s : Shp) (deep : Nat) : Nat := (if s.kind = 2 then deep + s.path.length - 1 else deep) + 1
def ldR (s : Shp) (r : List Rn × Nat × Nat) : Rn × Nat × Nat := if r.2.1 = 0 then (.mk s.kind s.path s.value r.1, 0, r.2.2) else (.no, r.2.1, r.2.2)
def ld (by_ : List UInt8 → Option (List UInt8)) : Nat → List UInt8 → Nat → Nat → Rn × Nat × Nat
  | 0, _, _, m => (.no, 1, m)
  | f + 1, h, deep, m =>
    if 64 < deep then (.no, 1, m)
    else match by_ h with
      | none => (.no, 5, m)
      | some c =>
        if m = 4096 then (.no, 6, m)
        else match readS c with
          | none => (.no, 1, m + 1)
          | some s => if s.kind = 0 ∧ 0 < deep then (.no, 1, m + 1) else ldR s (ldK (fun k m => ld by_ f k (dpS s deep) m) s.kids (m + 1))
section
variable (S : List UInt8 → List UInt8) (hS : ∀ b, (S b).length = 32)
include hS
omit hS
end
end Ro
end Go.Proofs.Ytkbimhccaacobaa

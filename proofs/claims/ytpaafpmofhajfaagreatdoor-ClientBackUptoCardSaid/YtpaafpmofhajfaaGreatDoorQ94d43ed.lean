/- A part of the proof: texts joined. -/
import Derived.Test.YtpaafpmofhajfaaGreatDoorQ7261756
set_option linter.unusedVariables false
set_option linter.unusedSimpArgs false
namespace Go.Proofs.YtpaafpmofhajfaaGreatDoor
namespace Pk
open Ps
inductive Itm where
 | mk (l : Bool) (t : List UInt8) (ks : List Itm)
 deriving Inhabited
mutual
def Itm.size : Itm → Nat
 | .mk _ t ks => 1 + t.length + Itm.sizeL ks
def Itm.sizeL : List Itm → Nat
 | [] => 0
 | k :: r => k.size + 1 + Itm.sizeL r
end
def numL : Nat → List UInt8
 | 0 => []
 | n + 1 => numL ((n + 1) / 256) ++ [UInt8.ofNat ((n + 1) % 256)]
decreasing_by omega
theorem beN_append (l m : List UInt8) : beN (l ++ m) = beN l * 256 ^ m.length + beN m := by
 unfold beN
 rw [show nat8 (l ++ m) = nat8 l ++ nat8 m by simp [nat8], pos_append]
 simp [nat8]
theorem beN_numL : ∀ n, beN (numL n) = n
 | 0 => by rw [numL]; rfl
 | n + 1 => by
  have h : (n + 1) / 256 < n + 1 := by omega
  rw [numL, beN_append, beN_numL ((n + 1) / 256)]
  have : beN [UInt8.ofNat ((n + 1) % 256)] = (n + 1) % 256 := by simp [beN, nat8, pos]
  rw [this]
  simp only [List.length_cons, List.length_nil]
  omega
decreasing_by omega
theorem numL_head : ∀ n, (numL n).head? ≠ some 0
 | 0 => by rw [numL]; simp
 | n + 1 => by
  have h : (n + 1) / 256 < n + 1 := by omega
  rw [numL]
  have ih := numL_head ((n + 1) / 256)
  cases hl : numL ((n + 1) / 256) with
  | nil =>
   have e := beN_numL ((n + 1) / 256)
   rw [hl] at e
   have e0 : beN [] = 0 := rfl
   rw [e0] at e
   intro h0
   simp only [List.nil_append, List.head?_cons, Option.some.injEq] at h0
   have := congrArg UInt8.toNat h0
   simp at this
   omega
  | cons a r => rw [hl] at ih; simpa using ih
decreasing_by omega
theorem numL_uniq {n : Nat} {l : List UInt8} (h : l.head? ≠ some 0) (k : beN l = n) : l = numL n := beN_inj h (numL_head n) (k.trans (beN_numL n).symm)
theorem strip_num {l : List UInt8} {n : Nat} (h : beN l = n) : strip l = numL n := numL_uniq (strip_head l) ((beN_strip l).trans h)
theorem numL_len {n k : Nat} (h : n < 256 ^ k) : (numL n).length ≤ k := by
 rcases Nat.lt_or_ge k (numL n).length with hlt | hge
 ·exfalso
  have hh := numL_head n
  have hb := beN_numL n
  cases hl : numL n with
  | nil => rw [hl] at hlt; simp at hlt
  | cons a r =>
   rw [hl] at hh hb hlt
   have ha : a.toNat ≠ 0 := fun e => hh (by simp only [List.head?_cons, Option.some.injEq]; exact UInt8.toNat_inj.1 (by rw [e]; rfl))
   have := pos_ge (B := 256) (a := a.toNat) (l := nat8 r) ha
   have e : pos 256 (a.toNat :: nat8 r) = n := hb
   rw [e] at this
   have hp : 256 ^ k ≤ 256 ^ (nat8 r).length := Nat.pow_le_pow_right (by decide) (by simp [nat8] at hlt ⊢; omega)
   omega
 ·exact hge
theorem numL_pos {n : Nat} (h : 0 < n) : 0 < (numL n).length := by
 rcases Nat.eq_zero_or_pos (numL n).length with h0 | h0
 ·have e := beN_numL n
  rw [List.eq_nil_of_length_eq_zero h0] at e
  have e0 : beN [] = 0 := rfl
  omega
 ·exact h0
def head (base n : Nat) : List UInt8 := if n < 48 then [UInt8.ofNat (base + n)] else UInt8.ofNat (base + 48 + ((numL n).length - 1)) :: numL n
mutual
def enc : Itm → List UInt8
 | .mk false t _ => if t.length = 1 ∧ t.getD 0 default < 128 then t else head 128 t.length ++ t
 | .mk true _ ks => head 192 (encL ks).length ++ encL ks
def encL : List Itm → List UInt8
 | [] => []
 | k :: r => enc k ++ encL r
end
mutual
def nrm : Itm → Itm
 | .mk false t _ => .mk false t []
 | .mk true _ ks => .mk true [] (nrmL ks)
def nrmL : List Itm → List Itm
 | [] => []
 | k :: r => nrm k :: nrmL r
end
mutual
def same : Itm → Itm → Bool
 | .mk l t ks, .mk l' t' ks' => decide (l = l') && (if l = false then decide (t = t') else decide (ks.length = ks'.length) && sameL ks ks')
def sameL : List Itm → List Itm → Bool
 | a :: r, b :: s => same a b && sameL r s
 | [], _ => true
 | _ :: _, [] => true
end
def take? (n : Nat) (l : List UInt8) : Option (List UInt8 × List UInt8) := if n ≤ l.length then some (l.take n, l.drop n) else none
def lenR (c base : Nat) (l : List UInt8) : Option (Nat × List UInt8) :=
 if c < base + 48 then some (c - base, l)
 else match take? (c - base - 48 + 1) l with
  | none => none
  | some (h, r) => if h.head? = some 0 ∨ 8 < h.length then none else if beN h < 48 then none else some (beN h, r)
def part (c base : Nat) (l : List UInt8) : Option (List UInt8 × List UInt8) :=
 match lenR c base l with
 | none => none
 | some (n, r) => take? n r
theorem take?_spec {n : Nat} {l a r : List UInt8} (h : take? n l = some (a, r)) : l = a ++ r ∧ a.length = n := by
 unfold take? at h
 split at h
 ·cases h
  exact ⟨(List.take_append_drop n l).symm, by simp; omega⟩
 ·cases h
theorem take?_app (a r : List UInt8) : take? a.length (a ++ r) = some (a, r) := by simp [take?]
theorem lenR_spec {c base n : Nat} {l r : List UInt8} (h : lenR c base l = some (n, r)) : r.length ≤ l.length := by
 unfold lenR at h
 split at h
 ·cases h; exact Nat.le_refl _
 ·split at h
  ·cases h
  ·rename_i h' r' ht
   obtain ⟨rfl, _⟩ := take?_spec ht
   split at h
   ·cases h
   ·split at h
    ·cases h
    ·cases h; simp
theorem part_spec {c base : Nat} {l a r : List UInt8} (h : part c base l = some (a, r)) : a.length + r.length ≤ l.length := by
 unfold part at h
 split at h
 ·cases h
 ·rename_i n r' hl
  have := lenR_spec hl
  obtain ⟨rfl, _⟩ := take?_spec h
  simpa using this
mutual
def rd : List UInt8 → Option (Itm × List UInt8)
 | [] => none
 | c :: l =>
  if c.toNat < 128 then some (.mk false [c] [], l)
  else if c.toNat < 192 then
   match part c.toNat 128 l with
   | none => none
   | some (b, r) => if b.length = 1 ∧ b.getD 0 default < 128 then none else some (.mk false b [], r)
  else match _hp : part c.toNat 192 l with
   | none => none
   | some (b, r) =>
    match rdL b with
    | none => none
    | some ks => some (.mk true [] ks, r)
termination_by l => (l.length, 0)
decreasing_by
 have := part_spec _hp
 exact Prod.Lex.left _ _ (by simp; omega)
def rdL (b : List UInt8) : Option (List Itm) :=
 if b = [] then some []
 else match rd b with
  | none => none
  | some (k, r) =>
   if r.length < b.length then
    match rdL r with
    | none => none
    | some ks => some (k :: ks)
   else none
termination_by (b.length, 1)
decreasing_by
 ·exact Prod.Lex.right _ (by decide)
 ·rename_i h; exact Prod.Lex.left _ _ h
end
theorem rd_len {l r : List UInt8} {k : Itm} (h : rd l = some (k, r)) : r.length < l.length := by
 cases l with
 | nil => rw [rd] at h; cases h
 | cons c l =>
  rw [rd] at h
  split at h
  ·cases h; simp
  ·split at h
   ·split at h
    ·cases h
    ·rename_i b r' hp
     have := part_spec hp
     split at h
     ·cases h
     ·cases h; simp; omega
   ·split at h
    ·cases h
    ·rename_i b r' hp
     have := part_spec hp
     split at h
     ·cases h
     ·cases h; simp; omega
theorem rdL_cons {b r : List UInt8} {k : Itm} (h : rd b = some (k, r)) : rdL b = (rdL r).map (k :: ·) := by
 rw [rdL]
 have hl := rd_len h
 have hb : b ≠ [] := fun e => by subst e; simp at hl
 rw [if_neg hb, h]
 simp only [hl, if_true]
 cases rdL r <;> rfl
theorem rdL_none {b : List UInt8} (hb : b ≠ []) (h : rd b = none) : rdL b = none := by
 rw [rdL, if_neg hb, h]
theorem ofNat_toNat {n : Nat} (h : n < 256) : (UInt8.ofNat n).toNat = n := by simp; omega
theorem part_head {base : Nat} {t r : List UInt8} (hb : base + 64 ≤ 256) (ht : t.length < 2 ^ 64) : ∃ c h, head base t.length = c :: h ∧ base ≤ c.toNat ∧ c.toNat < base + 64 ∧ part c.toNat base (h ++ (t ++ r)) = some (t, r) := by
 unfold head
 rcases Nat.lt_or_ge t.length 48 with h | h
 ·rw [if_pos h]
  have e := ofNat_toNat (n := base + t.length) (by omega)
  refine ⟨_, _, rfl, by omega, by omega, ?_⟩
  rw [e]
  unfold part lenR
  rw [if_pos (by omega)]
  simp only [List.nil_append, Nat.add_sub_cancel_left]
  exact take?_app t r
 ·rw [if_neg (by omega)]
  have h8 : (numL t.length).length ≤ 8 := numL_len (by simpa using ht)
  have h0 := numL_pos (n := t.length) (by omega)
  have e := ofNat_toNat (n := base + 48 + ((numL t.length).length - 1)) (by omega)
  refine ⟨_, _, rfl, by omega, by omega, ?_⟩
  rw [e]
  unfold part lenR
  rw [if_neg (by omega), show base + 48 + ((numL t.length).length - 1) - base - 48 + 1 = (numL t.length).length by omega, take?_app]
  simp only []
  rw [if_neg (by intro hh; rcases hh with hh | hh; exact numL_head _ hh; omega), beN_numL, if_neg (by omega)]
  exact take?_app t r
theorem part_uniq {base c : Nat} {l a r : List UInt8} (hc : base ≤ c) (hc2 : c < base + 64) (_hb : base + 64 ≤ 256) (h : part c base l = some (a, r)) : UInt8.ofNat c :: l = head base a.length ++ (a ++ r) := by
 unfold part at h
 split at h
 ·cases h
 ·rename_i n r' hl
  unfold lenR at hl
  split at hl
  ·cases hl
   obtain ⟨rfl, hn⟩ := take?_spec h
   unfold head
   rw [if_pos (by omega), show base + a.length = c by omega]
   rfl
  ·split at hl
   ·cases hl
   ·rename_i h' r'' ht
    obtain ⟨rfl, hn'⟩ := take?_spec ht
    split at hl
    ·cases hl
    ·split at hl
     ·cases hl
     ·rename_i hz hs
      cases hl
      obtain ⟨rfl, hn⟩ := take?_spec h
      have e : h' = numL a.length := numL_uniq (fun e => hz (.inl e)) hn.symm
      unfold head
      rw [if_neg (by omega), ← e, show base + 48 + (h'.length - 1) = c by omega]
      simp
mutual
theorem rd_enc : ∀ (a : Itm) (r : List UInt8), (enc a).length < 2 ^ 64 → rd (enc a ++ r) = some (nrm a, r)
 | .mk false t ks, r, h => by
  unfold enc at h ⊢
  split
  ·rename_i h1
   obtain ⟨h1, h2⟩ := h1
   match t, h1 with
   | [c], _ =>
    have : c.toNat < 128 := h2
    simp only [List.cons_append, List.nil_append]
    rw [rd, if_pos this]
    rfl
  ·rename_i h1
   rw [if_neg h1] at h
   obtain ⟨c, hh, e1, e2, e3, e4⟩ := part_head (base := 128) (t := t) (r := r) (by decide) (by simp at h; omega)
   rw [e1, List.cons_append, List.cons_append, List.append_assoc, rd, if_neg (by omega), if_pos (by omega), e4]
   simp only []
   rw [if_neg h1]
   rfl
 | .mk true t ks, r, h => by
  unfold enc at h ⊢
  have hl : (encL ks).length < 2 ^ 64 := by simp at h; omega
  obtain ⟨c, hh, e1, e2, e3, e4⟩ := part_head (base := 192) (t := encL ks) (r := r) (by decide) hl
  have ih := rdL_enc ks hl
  rw [e1, List.cons_append, List.cons_append, List.append_assoc, rd, if_neg (by omega), if_neg (by omega)]
  split
  ·rename_i hp; rw [e4] at hp; cases hp
  ·rename_i b r' hp
   rw [e4] at hp
   cases hp
   rw [ih]
   rfl
theorem rdL_enc : ∀ (a : List Itm), (encL a).length < 2 ^ 64 → rdL (encL a) = some (nrmL a)
 | [], _ => by rw [rdL]; rfl
 | k :: s, h => by
  unfold encL at h ⊢
  have h1 := rd_enc k (encL s) (by simp at h; omega)
  rw [rdL_cons h1, rdL_enc s (by simp at h; omega)]
  rfl
end
theorem rd_uniq : ∀ (n : Nat), (∀ (l r : List UInt8) (k : Itm), l.length ≤ n → rd l = some (k, r) → l = enc k ++ r ∧ nrm k = k) ∧ (∀ (l : List UInt8) (ks : List Itm), l.length ≤ n → rdL l = some ks → l = encL ks ∧ nrmL ks = ks) := by
 intro n
 induction n with
 | zero =>
  refine ⟨fun l r k hl h => ?_, fun l ks hl h => ?_⟩
  ·have := rd_len h; omega
  ·have : l = [] := List.eq_nil_of_length_eq_zero (by omega)
   subst this
   rw [rdL] at h
   simp at h
   subst h
   exact ⟨rfl, rfl⟩
 | succ n ih =>
  have key : ∀ (l r : List UInt8) (k : Itm), l.length ≤ n + 1 → rd l = some (k, r) → l = enc k ++ r ∧ nrm k = k := by
   intro l r k hl h
   cases l with
   | nil => rw [rd] at h; cases h
   | cons c l =>
    have hc := c.toNat_lt
    have hcc : UInt8.ofNat c.toNat = c := by simp
    rw [rd] at h
    split at h
    ·rename_i h1
     cases h
     refine ⟨?_, rfl⟩
     unfold enc
     rw [if_pos ⟨rfl, h1⟩]
     rfl
    ·rename_i h1
     split at h
     ·rename_i h2
      split at h
      ·cases h
      ·rename_i b r' hp
       split at h
       ·cases h
       ·rename_i h3
        cases h
        refine ⟨?_, rfl⟩
        have := part_uniq (by omega) (by omega) (by decide) hp
        rw [hcc] at this
        unfold enc
        rw [if_neg h3, List.append_assoc]
        exact this
     ·rename_i h2
      split at h
      ·cases h
      ·rename_i b r' hp
       split at h
       ·cases h
       ·rename_i ks hks
        cases h
        have hps := part_spec hp
        obtain ⟨e1, e2⟩ := ih.2 b ks (by simp at hl; omega) hks
        have := part_uniq (by omega) (by omega) (by decide) hp
        rw [hcc] at this
        unfold enc nrm
        rw [e2, ← e1, List.append_assoc]
        exact ⟨this, rfl⟩
  refine ⟨key, fun l ks hl h => ?_⟩
  rcases Nat.eq_zero_or_pos l.length with h0 | h0
  ·have : l = [] := List.eq_nil_of_length_eq_zero h0
   subst this
   rw [rdL] at h
   simp at h
   subst h
   exact ⟨rfl, rfl⟩
  ·cases hr : rd l with
   | none =>
    rw [rdL_none (fun e => by subst e; simp at h0) hr] at h; cases h
   | some x =>
    obtain ⟨k, r⟩ := x
    rw [rdL_cons hr] at h
    obtain ⟨ks', hks, rfl⟩ := Option.map_eq_some_iff.1 h
    have hlen := rd_len hr
    obtain ⟨e1, e2⟩ := key l r k hl hr
    obtain ⟨e3, e4⟩ := ih.2 r ks' (by omega) hks
    unfold encL nrmL
    rw [e2, e4, ← e3]
    exact ⟨e1, rfl⟩
def dec (b : List UInt8) : Option Itm :=
 match rd b with
 | some (k, []) => some k
 | _ => none
theorem dec_enc {a : Itm} (h : (enc a).length < 2 ^ 64) : dec (enc a) = some (nrm a) := by
 have := rd_enc a [] h
 rw [List.append_nil] at this
 unfold dec
 rw [this]
theorem dec_uniq {b : List UInt8} {k : Itm} (h : dec b = some k) : b = enc k := by
 unfold dec at h
 cases hr : rd b with
 | none => rw [hr] at h; cases h
 | some x =>
  obtain ⟨k', r⟩ := x
  rw [hr] at h
  cases r with
  | cons => cases h
  | nil =>
   cases h
   have := ((rd_uniq b.length).1 b [] k (Nat.le_refl _) hr).1
   simpa using this
theorem head_len {b n : Nat} (h : n < 2 ^ 64) : (head b n).length ≤ 9 := by
 unfold head
 split
 ·simp
 ·have := numL_len (n := n) (k := 8) (by simpa using h)
  simp only [List.length_cons]; omega
mutual
theorem enc_len : ∀ a : Itm, a.size < 2 ^ 56 → (enc a).length ≤ 9 * a.size
 | .mk false t ks, h => by
  unfold enc Itm.size at *
  split
  ·omega
  ·have : (head 128 t.length).length ≤ 9 := head_len (by omega)
   simp only [List.length_append]; omega
 | .mk true t ks, h => by
  unfold enc Itm.size at *
  have := encL_len ks (by omega)
  have h2 : (head 192 (encL ks).length).length ≤ 9 := head_len (by omega)
  simp only [List.length_append]; omega
theorem encL_len : ∀ a : List Itm, Itm.sizeL a < 2 ^ 56 → (encL a).length ≤ 9 * Itm.sizeL a
 | [], _ => by simp [encL]
 | k :: r, h => by
  unfold encL Itm.sizeL at *
  have h1 := enc_len k (by omega)
  have h2 := encL_len r (by omega)
  simp only [List.length_append]; omega
end
attribute [irreducible] head enc encL lenR part
end Pk
end Go.Proofs.YtpaafpmofhajfaaGreatDoor

/- A part of the proof: texts joined. -/
import Derived.Test.YtffaobngpbaklaaGreatDoorQ803a69d
set_option linter.unusedVariables false
set_option linter.unusedSimpArgs false
namespace Go.Proofs.YtffaobngpbaklaaGreatDoor
namespace Pk
open Ps
inductive Itm where
 | mk (l : Bool) (t : List UInt8) (ks : List Itm)
 deriving Inhabited
mutual
def Itm.size : Itm → Nat
 | .mk _ t ks => 1 + t.length + Itm.sizeL ks
def Itm.sizeL : List Itm → Nat
 | [] => 0
 | k :: r => k.size + 1 + Itm.sizeL r
end
def numL : Nat → List UInt8
 | 0 => []
 | n + 1 => numL ((n + 1) / 256) ++ [UInt8.ofNat ((n + 1) % 256)]
decreasing_by omega
theorem beN_append (l m : List UInt8) : beN (l ++ m) = beN l * 256 ^ m.length + beN m := by
 unfold beN
 rw [show nat8 (l ++ m) = nat8 l ++ nat8 m by simp [nat8], pos_append]
 simp [nat8]
theorem beN_numL : ∀ n, beN (numL n) = n
 | 0 => by rw [numL]; rfl
 | n + 1 => by
  have h : (n + 1) / 256 < n + 1 := by omega
  rw [numL, beN_append, beN_numL ((n + 1) / 256)]
  have : beN [UInt8.ofNat ((n + 1) % 256)] = (n + 1) % 256 := by simp [beN, nat8, pos]
  rw [this]
  simp only [List.length_cons, List.length_nil]
  omega
decreasing_by omega
theorem numL_head : ∀ n, (numL n).head? ≠ some 0
 | 0 => by rw [numL]; simp
 | n + 1 => by
  have h : (n + 1) / 256 < n + 1 := by omega
  rw [numL]
  have ih := numL_head ((n + 1) / 256)
  cases hl : numL ((n + 1) / 256) with
  | nil =>
   have e := beN_numL ((n + 1) / 256)
   rw [hl] at e
   have e0 : beN [] = 0 := rfl
   rw [e0] at e
   intro h0
   simp only [List.nil_append, List.head?_cons, Option.some.injEq] at h0
   have := congrArg UInt8.toNat h0
   simp at this
   omega
  | cons a r => rw [hl] at ih; simpa using ih
decreasing_by omega
theorem numL_uniq {n : Nat} {l : List UInt8} (h : l.head? ≠ some 0) (k : beN l = n) : l = numL n := beN_inj h (numL_head n) (k.trans (beN_numL n).symm)
theorem strip_num {l : List UInt8} {n : Nat} (h : beN l = n) : strip l = numL n := numL_uniq (strip_head l) ((beN_strip l).trans h)
theorem numL_len {n k : Nat} (h : n < 256 ^ k) : (numL n).length ≤ k := by
 rcases Nat.lt_or_ge k (numL n).length with hlt | hge
 ·exfalso
  have hh := numL_head n
  have hb := beN_numL n
  cases hl : numL n with
  | nil => rw [hl] at hlt; simp at hlt
  | cons a r =>
   rw [hl] at hh hb hlt
   have ha : a.toNat ≠ 0 := fun e => hh (by simp only [List.head?_cons, Option.some.injEq]; exact UInt8.toNat_inj.1 (by rw [e]; rfl))
   have := pos_ge (B := 256) (a := a.toNat) (l := nat8 r) ha
   have e : pos 256 (a.toNat :: nat8 r) = n := hb
   rw [e] at this
   have hp : 256 ^ k ≤ 256 ^ (nat8 r).length := Nat.pow_le_pow_right (by decide) (by simp [nat8] at hlt ⊢; omega)
   omega
 ·exact hge
def head (base n : Nat) : List UInt8 := if n < 48 then [UInt8.ofNat (base + n)] else UInt8.ofNat (base + 48 + ((numL n).length - 1)) :: numL n
mutual
def enc : Itm → List UInt8
 | .mk false t _ => if t.length = 1 ∧ t.getD 0 default < 128 then t else head 128 t.length ++ t
 | .mk true _ ks => head 192 (encL ks).length ++ encL ks
def encL : List Itm → List UInt8
 | [] => []
 | k :: r => enc k ++ encL r
end
mutual
def nrm : Itm → Itm
 | .mk false t _ => .mk false t []
 | .mk true _ ks => .mk true [] (nrmL ks)
def nrmL : List Itm → List Itm
 | [] => []
 | k :: r => nrm k :: nrmL r
end
mutual
def same : Itm → Itm → Bool
 | .mk l t ks, .mk l' t' ks' => decide (l = l') && (if l = false then decide (t = t') else decide (ks.length = ks'.length) && sameL ks ks')
def sameL : List Itm → List Itm → Bool
 | a :: r, b :: s => same a b && sameL r s
 | [], _ => true
 | _ :: _, [] => true
end
def take? (n : Nat) (l : List UInt8) : Option (List UInt8 × List UInt8) := if n ≤ l.length then some (l.take n, l.drop n) else none
def lenR (c base : Nat) (l : List UInt8) : Option (Nat × List UInt8) :=
 if c < base + 48 then some (c - base, l)
 else match take? (c - base - 48 + 1) l with
  | none => none
  | some (h, r) => if h.head? = some 0 ∨ 8 < h.length then none else if beN h < 48 then none else some (beN h, r)
def part (c base : Nat) (l : List UInt8) : Option (List UInt8 × List UInt8) :=
 match lenR c base l with
 | none => none
 | some (n, r) => take? n r
attribute [irreducible] head enc encL lenR part
end Pk
end Go.Proofs.YtffaobngpbaklaaGreatDoor

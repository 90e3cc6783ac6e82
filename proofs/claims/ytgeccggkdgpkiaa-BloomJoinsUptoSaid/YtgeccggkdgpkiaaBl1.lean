/- Sets of bits, no program in sight. -/
import Derived.Test.YtgeccggkdgpkiaaSp5
namespace Go.Proofs.Ytgeccggkdgpkiaa
open Go.RowKit Rg
namespace Lf
def joinS (g f : List UInt8) (i : Nat) : List UInt8 := f.set i (f.getD i default ||| g.getD i default)
def J (f g : List UInt8) : List UInt8 := List.zipWith (· ||| ·) f g
theorem joinS_len (g f : List UInt8) (i : Nat) : (joinS g f i).length = f.length := by simp [joinS]
theorem J_len {f g : List UInt8} (hf : f.length = 32) (hg : g.length = 32) : (J f g).length = 32 := by simp [J, hf, hg]
theorem join_at (g f : List UInt8) (n : Nat) (j : Nat) : (iter (joinS g) f n).getD j default = if j < n ∧ j < f.length then f.getD j default ||| g.getD j default else f.getD j default := by
  induction n with
  | zero => simp [iter]
  | succ n ih =>
    have hl : (iter (joinS g) f n).length = f.length := iterB_len (joinS_len g) _ _
    rw [iter, joinS]
    by_cases h : n = j
    · subst h
      by_cases h2 : n < f.length
      · rw [List.getD_eq_getElem?_getD, List.getElem?_set, if_pos rfl, if_pos (by omega), ih, if_neg (by omega), if_pos ⟨by omega, h2⟩]; rfl
      · rw [List.getD_eq_getElem?_getD, List.getElem?_set, if_pos rfl, if_neg (by omega), if_neg (by omega), List.getD_eq_getElem?_getD, List.getElem?_eq_none (by omega)]
    · rw [List.getD_eq_getElem?_getD, List.getElem?_set, if_neg h, ← List.getD_eq_getElem?_getD, ih]
      by_cases h2 : j < n ∧ j < f.length
      · rw [if_pos h2, if_pos ⟨by omega, h2.2⟩]
      · rw [if_neg h2, if_neg (by omega)]
theorem join_eq {f g : List UInt8} (hf : f.length = 32) (hg : g.length = 32) : iter (joinS g) f 32 = J f g := by
  have hl : (iter (joinS g) f 32).length = 32 := (iterB_len (joinS_len g) _ _).trans hf
  apply List.ext_getElem (by rw [hl, J_len hf hg])
  intro i h1 h2
  have := join_at g f 32 i
  rw [if_pos ⟨by omega, by omega⟩] at this
  simp only [List.getD_eq_getElem?_getD, List.getElem?_eq_getElem h1, List.getElem?_eq_getElem (show i < f.length by omega), List.getElem?_eq_getElem (show i < g.length by omega), Option.getD_some] at this
  rw [this]
  simp [J]
theorem J_self (f : List UInt8) : J f f = f := by
  induction f with
  | nil => rfl
  | cons x f ih => simp only [J, List.zipWith_cons_cons, UInt8.or_self]; exact congrArg _ ih
theorem J_comm (f g : List UInt8) : J f g = J g f := by
  induction f generalizing g with
  | nil => cases g <;> rfl
  | cons x f ih => cases g with
    | nil => rfl
    | cons y g => simp only [J, List.zipWith_cons_cons, UInt8.or_comm x y]; exact congrArg _ (ih g)
theorem J_assoc (f g h : List UInt8) : J (J f g) h = J f (J g h) := by
  induction f generalizing g h with
  | nil => rfl
  | cons x f ih => cases g with
    | nil => rfl
    | cons y g => cases h with
      | nil => rfl
      | cons z h => simp only [J, List.zipWith_cons_cons, UInt8.or_assoc]; exact congrArg _ (ih g h)
/-- All bits of f are in g. -/
def W (f g : List UInt8) : Prop := J f g = g
theorem W_refl (f : List UInt8) : W f f := J_self f
theorem W_anti {f g : List UInt8} (h : W f g) (k : W g f) : f = g := by unfold W at h k; rw [← k, J_comm, h]
theorem W_trans {f g h : List UInt8} (a : W f g) (b : W g h) : W f h := by unfold W at *; rw [← b, ← J_assoc, a]
theorem W_lub {f g h : List UInt8} : W (J f g) h ↔ W f h ∧ W g h := by
  unfold W
  constructor
  · intro a
    have e1 : J f (J f g) = J f g := by rw [← J_assoc, J_self]
    have e2 : J g (J f g) = J f g := by rw [J_comm f g, ← J_assoc, J_self]
    constructor
    · rw [← a, ← J_assoc, e1]
    · rw [← a, ← J_assoc, e2]
  · rintro ⟨a, b⟩; rw [J_assoc, b, a]
theorem W_left (f g : List UInt8) : W f (J f g) := by unfold W; rw [← J_assoc, J_self]
theorem W_right (f g : List UInt8) : W g (J f g) := by rw [J_comm]; exact W_left g f
/-! What goes in -/
def setb (f : List UInt8) (n : UInt8) : List UInt8 := f.set (n.toNat / 8) (f.getD (n.toNat / 8) default ||| UInt8.ofNat (1 * 2 ^ (n.toNat % 8)))
def addT (f t : List UInt8) : List UInt8 := iter (fun f k => setb f ((sumB t).getD k default)) f 3
def z32 : List UInt8 := List.replicate 32 0
def ofB (ts : List (List UInt8)) : List UInt8 := ts.foldl addT z32
theorem setb_len (f : List UInt8) (n : UInt8) : (setb f n).length = f.length := by simp [setb]
theorem addT_len (f t : List UInt8) : (addT f t).length = f.length := by unfold addT; exact iterB_len (f := fun f k => setb f ((sumB t).getD k default)) (fun s i => setb_len s _) f 3
theorem foldT_len (f : List UInt8) (ts : List (List UInt8)) : (ts.foldl addT f).length = f.length := by
  induction ts generalizing f with
  | nil => rfl
  | cons t ts ih => rw [List.foldl_cons, ih, addT_len]
theorem ofB_len (ts : List (List UInt8)) : (ofB ts).length = 32 := by unfold ofB; rw [foldT_len]; rfl
theorem J_get {f g : List UInt8} (hf : f.length = 32) (hg : g.length = 32) {i : Nat} (hi : i < 32) : (J f g).getD i default = f.getD i default ||| g.getD i default := by
  simp [J, List.getD_eq_getElem?_getD, List.getElem?_zipWith, hf, hg, hi]
theorem J_set {f g : List UInt8} (hf : f.length = 32) (hg : g.length = 32) {k : Nat} (hk : k < 32) (x : UInt8) : (J f g).set k (f.getD k default ||| x) = J f (g.set k x) := by
  apply List.ext_getElem?
  intro i
  rw [List.getElem?_set]
  by_cases h : k = i
  · subst h
    rw [if_pos rfl, if_pos (by rw [J_len hf hg]; exact hk)]
    simp [J, List.getElem?_zipWith, hf, hg, hk, List.getD_eq_getElem?_getD]
  · rw [if_neg h]
    simp [J, List.getElem?_zipWith, List.getElem?_set, h]
theorem setb_J {f g : List UInt8} (hf : f.length = 32) (hg : g.length = 32) (n : UInt8) : setb (J f g) n = J f (setb g n) := by
  have hn : n.toNat / 8 < 32 := by have := n.toNat_lt; omega
  unfold setb
  rw [J_get hf hg hn, UInt8.or_assoc]
  exact J_set hf hg hn _
theorem addT_J {f g : List UInt8} (hf : f.length = 32) (hg : g.length = 32) (t : List UInt8) : addT (J f g) t = J f (addT g t) := by
  unfold addT
  have : ∀ k, iter (fun f k => setb f ((sumB t).getD k default)) (J f g) k = J f (iter (fun f k => setb f ((sumB t).getD k default)) g k) ∧ (iter (fun f k => setb f ((sumB t).getD k default)) g k).length = 32 := by
    intro k
    induction k with
    | zero => exact ⟨rfl, hg⟩
    | succ k ih =>
      obtain ⟨e, l⟩ := ih
      exact ⟨by rw [iter, e, iter]; exact setb_J hf l _, by rw [iter]; exact (setb_len _ _).trans l⟩
  exact (this 3).1
theorem J_zero {f : List UInt8} (hf : f.length = 32) : J f z32 = f := by
  apply List.ext_getElem?
  intro i
  unfold J z32
  rw [List.getElem?_zipWith]
  rcases Nat.lt_or_ge i 32 with h | h
  · rw [List.getElem?_replicate, if_pos h, List.getElem?_eq_getElem (by omega)]
    simp
  · rw [List.getElem?_eq_none (l := f) (by omega)]
theorem addT_eq {f : List UInt8} (hf : f.length = 32) (t : List UInt8) : addT f t = J f (ofB [t]) := by
  have := addT_J hf (show z32.length = 32 from rfl) t
  rw [J_zero hf] at this
  exact this
theorem foldT_W {f : List UInt8} (hf : f.length = 32) : ∀ ts : List (List UInt8), W f (ts.foldl addT f) := by
  intro ts
  induction ts generalizing f with
  | nil => exact W_refl f
  | cons t ts ih =>
    rw [List.foldl_cons]
    refine W_trans ?_ (ih ((addT_len f t).trans hf))
    rw [addT_eq hf]
    exact W_left _ _
theorem ofB_mem {t : List UInt8} : ∀ {ts : List (List UInt8)} {f : List UInt8}, f.length = 32 → t ∈ ts → W (ofB [t]) (ts.foldl addT f) := by
  intro ts
  induction ts with
  | nil => intro f _ h; cases h
  | cons x ts ih =>
    intro f hf h
    rw [List.foldl_cons]
    rcases List.mem_cons.1 h with rfl | h
    · refine W_trans ?_ (foldT_W ((addT_len f t).trans hf) ts)
      rw [addT_eq hf]
      exact W_right _ _
    · exact ih ((addT_len f x).trans hf) h
attribute [irreducible] J addT ofB
end Lf
end Go.Proofs.Ytgeccggkdgpkiaa

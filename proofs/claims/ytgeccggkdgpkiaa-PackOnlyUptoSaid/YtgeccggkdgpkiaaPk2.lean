/- Package pack: ToNum, heads, Encode; items held against each other. -/
import Derived.Test.YtgeccggkdgpkiaaPk1
namespace Go.Proofs.Ytgeccggkdgpkiaa
open Go.RowKit Rg Wm Ar
namespace Lf
open Pk
mutual
def itC : Itm → List V
  | .mk l t ks => [.k (.bool l), bV t, .s none (itL ks)]
def itL : List Itm → List V
  | [] => []
  | k :: r => .a (itC k) :: itL r
end
abbrev itV (x : Itm) : V := .a (itC x)
theorem itL_map : ∀ ks : List Itm, itL ks = ks.map itV
  | [] => rfl
  | k :: r => by rw [itL, itL_map r]; rfl
theorem itC_eq (l : Bool) (t : List UInt8) (ks : List Itm) : itC (.mk l t ks) = [.k (.bool l), bV t, .s none (ks.map itV)] := by rw [itC, itL_map]
theorem itC_len (x : Itm) : (itC x).length = 3 := by obtain ⟨l, t, ks⟩ := x; rw [itC_eq]; rfl
theorem itC_refs (m : Mem) (x : Itm) : V.refs.go m (itC x) = true := by obtain ⟨l, t, ks⟩ := x; rw [itC_eq]; rfl
theorem itC_bare (x : Itm) : (itV x).bare = some (itV x) := by obtain ⟨l, t, ks⟩ := x; simp only [itV, itC_eq]; rfl
theorem itC_cv (x : Itm) (keep : Nat → Bool) (nn : Bool) : V.cv.go keep nn (itC x) = itC x := by obtain ⟨l, t, ks⟩ := x; rw [itC_eq]; simp [V.cv.go, V.cv]
theorem sizeL_take {ks : List Itm} {i : Nat} (h : i < ks.length) : Itm.sizeL (ks.take (i + 1)) = Itm.sizeL (ks.take i) + ((ks.getD i default).size + 1) := by
  rw [List.take_succ_eq_append_getElem h]
  have : ∀ (a b : List Itm), Itm.sizeL (a ++ b) = Itm.sizeL a + Itm.sizeL b := by
    intro a b
    induction a with
    | nil => simp [Itm.sizeL]
    | cons k r ih => simp only [List.cons_append, Itm.sizeL, ih]; omega
  rw [this, List.getD_eq_getElem?_getD, List.getElem?_eq_getElem h]
  simp [Itm.sizeL]
theorem sizeL_mem {ks : List Itm} {k : Itm} (h : k ∈ ks) : k.size < Itm.sizeL ks := by
  induction ks with
  | nil => cases h
  | cons a r ih =>
    simp only [Itm.sizeL]
    rcases List.mem_cons.1 h with rfl | h
    · omega
    · have := ih h; omega
theorem encL_take {ks : List Itm} {i : Nat} (h : i < ks.length) : encL (ks.take (i + 1)) = encL (ks.take i) ++ enc (ks.getD i default) := by
  rw [List.take_succ_eq_append_getElem h]
  have : ∀ (a b : List Itm), encL (a ++ b) = encL a ++ encL b := by
    intro a b
    induction a with
    | nil => simp [encL]
    | cons k r ih => simp only [List.cons_append, encL, ih, List.append_assoc]
  rw [this, List.getD_eq_getElem?_getD, List.getElem?_eq_getElem h]
  simp [encL]
theorem encL_take_le (ks : List Itm) (i : Nat) : (encL (ks.take i)).length ≤ (encL ks).length := by
  have : ∀ (a b : List Itm), encL (a ++ b) = encL a ++ encL b := by
    intro a b
    induction a with
    | nil => simp [encL]
    | cons k r ih => simp only [List.cons_append, encL, ih, List.append_assoc]
  have h2 := this (ks.take i) (ks.drop i)
  rw [List.take_append_drop] at h2
  rw [h2, List.length_append]
  omega
attribute [irreducible] itC
namespace Pw
set_option maxHeartbeats 1000000 in
theorem ToNum_ok (l : List UInt8) (h1 : l.length ≤ 32) (h2 : l.head? ≠ some 0) : LF Try.prog 36 [bV l] (fun _ => .t [wV (Ps.beN l), .k (.int .i64 0)]) none := by
  have c1 := Wo.Read l h1
  have hz : 0 < l.length → ¬ ((l.getD 0 default).toNat : Int) = 0 := fun h0 e => by
    cases l with
    | nil => simp at h0
    | cons a r => exact h2 (by simp only [List.head?_cons, Option.some.injEq]; exact u8_zero (by simpa using e))
  have hl := limbs_len (Ps.beN l)
  rcases Nat.eq_zero_or_pos l.length with h0 | h0
  · clear hz
    refine LFx.mk' tt Try.func36 rfl rfl rfl (by kernel_rfl) rfl rfl fun F => ?_
    exact wk trueW trueW trueW
  · have hz2 := hz h0
    clear hz
    refine LFx.mk' tt Try.func36 rfl rfl rfl (by kernel_rfl) rfl rfl fun F => ?_
    exact wk trueW trueW trueW
set_option maxHeartbeats 1000000 in
theorem ToNum_no (l : List UInt8) (h : 32 < l.length ∨ l.head? = some 0) (hm : l.length < 1073741824) : LF Try.prog 36 [bV l] (fun _ => .t [.a ((List.replicate 4 0).map uK), .k (.int .i64 1)]) none := by
  rcases Nat.lt_or_ge 32 l.length with h1 | h1
  · clear h
    refine LFx.mk' tt Try.func36 rfl rfl rfl (by kernel_rfl) rfl rfl fun F => ?_
    exact wk trueW trueW trueW
  · have h0 : 0 < l.length := by
      rcases h with h | h
      · omega
      · cases l with
        | nil => cases h
        | cons a r => simp
    have hz : ((l.getD 0 default).toNat : Int) = 0 := by
      rcases h with h | h
      · omega
      · cases l with
        | nil => cases h
        | cons a r => simp only [List.head?_cons, Option.some.injEq] at h; subst h; rfl
    clear h
    refine LFx.mk' tt Try.func36 rfl rfl rfl (by kernel_rfl) rfl rfl fun F => ?_
    exact wk trueW trueW trueW
theorem head_lt (b n : Nat) (h : n < 1073741824) : (numL n).length ≤ 4 := numL_len (by simpa using (by omega : n < 4294967296))
set_option maxHeartbeats 1000000 in
theorem head (b : UInt8) (hb : b.toNat = 128 ∨ b.toNat = 192) (n : Nat) (hn : n < 1073741824) (k : Nat) : LM Try.prog 46 [bK b, .k (.int .i64 (n : Int))] [] fun o m => o = .ret (.s (some k) ((Pk.head b.toNat n).map bK)) ∧ m = [(k, .r 5 1 (Pk.head b.toNat n).length)] := by
  have e : Pk.head b.toNat n = if n < 48 then [UInt8.ofNat (b.toNat + n)] else UInt8.ofNat (b.toNat + 48 + ((numL n).length - 1)) :: numL n := by unfold Pk.head; rfl
  rcases Nat.lt_or_ge n 48 with h | h
  · rw [if_pos h] at e
    rw [e]
    have hx : IntKind.u8.wrap ((b.toNat : Int) + (n : Int)) = ((UInt8.ofNat (b.toNat + n)).toNat : Int) := by rw [wrap_u8 (by omega), Pk.ofNat_toNat (by omega)]; omega
    generalize UInt8.ofNat (b.toNat + n) = y at *
    refine LM.row1 (k0 := 12) (fun ρ => by simp [V.ren, bK]) ?_ k
    clear e
    refine LFx.mk' tt Try.func46 rfl rfl rfl (by kernel_rfl) rfl rfl fun F => ?_
    exact wk trueW trueW trueW
  · rw [if_neg (by omega)] at e
    have hn4 := head_lt 0 n hn
    have hp := numL_pos (n := n) (by omega)
    have hx : IntKind.u8.wrap ((b.toNat : Int) + 48 + (((numL n).length - 1 : Nat) : Int)) = ((UInt8.ofNat (b.toNat + 48 + ((numL n).length - 1))).toNat : Int) := by rw [wrap_u8 (by omega), Pk.ofNat_toNat (by omega)]; omega
    have c1 := Wo.IntW n (by unfold m64; omega)
    have c2 := Num n
    rw [Nat.mod_eq_of_lt (show n < M256 by unfold M256 m64; omega)] at c2
    rw [e]
    clear e
    generalize UInt8.ofNat (b.toNat + 48 + ((numL n).length - 1)) = y at *
    generalize numL n = L at *
    refine LM.row1 (k0 := 24) (fun ρ => by simp [V.ren, bK]) ?_ k
    refine LFx.mk' tt Try.func46 rfl rfl rfl (by kernel_rfl) rfl rfl fun F => ?_
    exact wk trueW trueW trueW
end Pw
end Lf
end Go.Proofs.Ytgeccggkdgpkiaa

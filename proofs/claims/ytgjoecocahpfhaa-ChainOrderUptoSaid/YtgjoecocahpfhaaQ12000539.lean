/- A part of the proof: texts joined. -/
import Derived.Test.YtgjoecocahpfhaaProg
import Derived.Test.YtgjoecocahpfhaaQ117d7d35
namespace Go.Proofs.Ytgjoecocahpfhaa
open Go.RowKit Rg Wm Ar
set_option linter.unusedVariables false
set_option maxRecDepth 100000
namespace Lf
open Pk
theorem strip_cons (a : UInt8) (r : List UInt8) (h : a = 0) : Ps.strip (a :: r) = Ps.strip r := by subst h; rfl
theorem drop_get {l : List UInt8} {i : Nat} (h : i < l.length) : l.drop i = l.getD i default :: l.drop (i + 1) := by
  rw [List.drop_eq_getElem_cons h, List.getD_eq_getElem?_getD, List.getElem?_eq_getElem h]; rfl
theorem u8_zero {a : UInt8} (h : a.toNat = 0) : a = 0 := UInt8.toNat_inj.1 (by rw [h]; rfl)
namespace Pw
set_option maxHeartbeats 1000000 in
theorem Num (x : Nat) : LF Try.prog 55 [wV x] (fun _ => .s none ((numL (x % M256)).map bK)) none := by
  have c1 := Wo.Bytes x
  have hl := limbs_len x
  have hs := Pk.strip_num (wordB_num x)
  have hb := wordB_len x
  rw [← hs]
  generalize wordB x = B at *
  clear hs
  refine LFx.mk' tt Try.func55 rfl rfl rfl (by kernel_rfl) rfl rfl fun F => ?_
  refine wk ?_ trueW trueW
  refine LC.loop2 (fun i S => [(3, .p 3 0), (4, S)]) (fun i S => [(3, .b (B.map bK))]) (fun i S => Ps.strip (B.drop i) = Ps.strip B ∧ ((i < 32 ∧ S = .sb 3 i (32 - i) (32 - i)) ∨ (i = 32 ∧ S = .s none []))) ((32 - ·)) (0) ((.sb 3 0 (32 - 0) (32 - 0))) ⟨rfl, .inl ⟨by omega, rfl⟩⟩ ⟨rfl, rfl, trivial⟩ ⟨rfl, trivial⟩ rfl rfW rfW ?_
  rintro i S ⟨hstr, ⟨h, rfl⟩ | ⟨rfl, rfl⟩⟩
  · have hd := drop_get (l := B) (i := i) (by omega)
    by_cases hz : (B.getD i default).toNat = 0
    · have hz2 : ((B.getD (i + 0) default).toNat : Int) = 0 := by rw [Nat.add_zero, hz]; rfl
      have hs2 : Ps.strip (B.drop (i + 1)) = Ps.strip B := by rw [← hstr, hd, strip_cons _ _ (u8_zero hz)]
      clear hd
      rcases Nat.lt_or_ge i 31 with h31 | h31
      · have hok : Ps.strip (B.drop (i + 1)) = Ps.strip B ∧ ((i + 1 < 32 ∧ V.sb 3 (i + 1) (32 - (i + 1)) (32 - (i + 1)) = .sb 3 (i + 1) (32 - (i + 1)) (32 - (i + 1))) ∨ (i + 1 = 32 ∧ V.sb 3 (i + 1) (32 - (i + 1)) (32 - (i + 1)) = .s none [])) := ⟨hs2, .inl ⟨by omega, rfl⟩⟩
        exact wk trueW trueW trueW
      · obtain rfl : i = 31 := by omega
        have hok : Ps.strip (B.drop 32) = Ps.strip B ∧ ((32 < 32 ∧ V.s none [] = .sb 3 32 (32 - 32) (32 - 32)) ∨ (32 = 32 ∧ V.s none [] = .s none [])) := ⟨hs2, .inr ⟨rfl, rfl⟩⟩
        exact wk trueW trueW trueW
    · have hz2 : ¬ ((B.getD (i + 0) default).toNat : Int) = 0 := by rw [Nat.add_zero]; omega
      have hv1 : V.s none (((B.drop i).take (32 - i)).map bK) = V.s none ((Ps.strip B).map bK) := by
        rw [← hstr, Ps.strip_id (l := B.drop i) (by rw [hd]; intro e; simp only [List.head?_cons, Option.some.injEq] at e; rw [e] at hz; exact hz rfl), List.take_of_length_le (by rw [List.length_drop]; omega)]
      clear hd hstr
      have hn : ((B.drop i).take (32 - i)).length = 32 - i := by rw [List.length_take, List.length_drop]; omega
      exact wk trueW trueW trueW
  · have hv1 : V.s none [] = V.s none ((Ps.strip B).map bK) := by
      rw [← hstr, List.drop_of_length_le (by omega)]; rfl
    clear hstr
    exact wk trueW trueW trueW
end Pw
end Lf
open Go.RowKit Rg Wm Ar
set_option linter.unusedVariables false
set_option maxRecDepth 100000
namespace Lf
open Pk
mutual
def itC : Itm → List V
  | .mk l t ks => [.k (.bool l), bV t, .s none (itL ks)]
def itL : List Itm → List V
  | [] => []
  | k :: r => .a (itC k) :: itL r
end
abbrev itV (x : Itm) : V := .a (itC x)
theorem itL_map : ∀ ks : List Itm, itL ks = ks.map itV
  | [] => rfl
  | k :: r => by rw [itL, itL_map r]; rfl
theorem itC_eq (l : Bool) (t : List UInt8) (ks : List Itm) : itC (.mk l t ks) = [.k (.bool l), bV t, .s none (ks.map itV)] := by rw [itC, itL_map]
theorem itC_len (x : Itm) : (itC x).length = 3 := by obtain ⟨l, t, ks⟩ := x; rw [itC_eq]; rfl
theorem itC_refs (m : Mem) (x : Itm) : V.refs.go m (itC x) = true := by obtain ⟨l, t, ks⟩ := x; rw [itC_eq]; rfl
theorem itC_bare (x : Itm) : (itV x).bare = some (itV x) := by obtain ⟨l, t, ks⟩ := x; simp only [itV, itC_eq]; rfl
theorem sizeL_mem {ks : List Itm} {k : Itm} (h : k ∈ ks) : k.size < Itm.sizeL ks := by
  induction ks with
  | nil => cases h
  | cons a r ih =>
    simp only [Itm.sizeL]
    rcases List.mem_cons.1 h with rfl | h
    · omega
    · have := ih h; omega
theorem encL_take {ks : List Itm} {i : Nat} (h : i < ks.length) : encL (ks.take (i + 1)) = encL (ks.take i) ++ enc (ks.getD i default) := by
  rw [List.take_succ_eq_append_getElem h]
  have : ∀ (a b : List Itm), encL (a ++ b) = encL a ++ encL b := by
    intro a b
    induction a with
    | nil => simp [encL]
    | cons k r ih => simp only [List.cons_append, encL, ih, List.append_assoc]
  rw [this, List.getD_eq_getElem?_getD, List.getElem?_eq_getElem h]
  simp [encL]
theorem encL_take_le (ks : List Itm) (i : Nat) : (encL (ks.take i)).length ≤ (encL ks).length := by
  have : ∀ (a b : List Itm), encL (a ++ b) = encL a ++ encL b := by
    intro a b
    induction a with
    | nil => simp [encL]
    | cons k r ih => simp only [List.cons_append, encL, ih, List.append_assoc]
  have h2 := this (ks.take i) (ks.drop i)
  rw [List.take_append_drop] at h2
  rw [h2, List.length_append]
  omega
attribute [irreducible] itC
namespace Pw
theorem head_lt (b n : Nat) (h : n < 1073741824) : (numL n).length ≤ 4 := numL_len (by simpa using (by omega : n < 4294967296))
set_option maxHeartbeats 1000000 in
theorem head (b : UInt8) (hb : b.toNat = 128 ∨ b.toNat = 192) (n : Nat) (hn : n < 1073741824) (k : Nat) : LM Try.prog 78 [bK b, .k (.int .i64 (n : Int))] [] fun o m => o = .ret (.s (some k) ((Pk.head b.toNat n).map bK)) ∧ m = [(k, .r 5 1 (Pk.head b.toNat n).length)] := by
  have e : Pk.head b.toNat n = if n < 48 then [UInt8.ofNat (b.toNat + n)] else UInt8.ofNat (b.toNat + 48 + ((numL n).length - 1)) :: numL n := by unfold Pk.head; rfl
  rcases Nat.lt_or_ge n 48 with h | h
  · rw [if_pos h] at e
    rw [e]
    have hx : IntKind.u8.wrap ((b.toNat : Int) + (n : Int)) = ((UInt8.ofNat (b.toNat + n)).toNat : Int) := by rw [wrap_u8 (by omega), Pk.ofNat_toNat (by omega)]; omega
    generalize UInt8.ofNat (b.toNat + n) = y at *
    refine LM.row1 (k0 := 12) (fun ρ => by simp [V.ren, bK]) ?_ k
    clear e
    refine LFx.mk' tt Try.func78 rfl rfl rfl (by kernel_rfl) rfl rfl fun F => ?_
    exact wk trueW trueW trueW
  · rw [if_neg (by omega)] at e
    have hn4 := head_lt 0 n hn
    have hp := numL_pos (n := n) (by omega)
    have hx : IntKind.u8.wrap ((b.toNat : Int) + 48 + (((numL n).length - 1 : Nat) : Int)) = ((UInt8.ofNat (b.toNat + 48 + ((numL n).length - 1))).toNat : Int) := by rw [wrap_u8 (by omega), Pk.ofNat_toNat (by omega)]; omega
    have c1 := Wo.IntW n (by unfold m64; omega)
    have c2 := Num n
    rw [Nat.mod_eq_of_lt (show n < M256 by unfold M256 m64; omega)] at c2
    rw [e]
    clear e
    generalize UInt8.ofNat (b.toNat + 48 + ((numL n).length - 1)) = y at *
    generalize numL n = L at *
    refine LM.row1 (k0 := 24) (fun ρ => by simp [V.ren, bK]) ?_ k
    refine LFx.mk' tt Try.func78 rfl rfl rfl (by kernel_rfl) rfl rfl fun F => ?_
    exact wk trueW trueW trueW
end Pw
end Lf
open Go.RowKit Rg Wm Ar
set_option linter.unusedVariables false
set_option maxRecDepth 100000
namespace Lf
open Pk
theorem sizeL_len (ks : List Itm) : ks.length ≤ Itm.sizeL ks := by
  induction ks with
  | nil => simp
  | cons a r ih => simp only [List.length_cons, Itm.sizeL]; omega
theorem getD_mem {ks : List Itm} {i : Nat} (h : i < ks.length) : ks.getD i default ∈ ks := by
  rw [List.getD_eq_getElem?_getD, List.getElem?_eq_getElem h]; exact List.getElem_mem h
namespace Pw
set_option maxHeartbeats 2000000 in
theorem Encode : ∀ (n : Nat) (x : Itm), x.size ≤ n → n < 100000000 → LF Try.prog 57 [itV x] (fun _ => .s none ((enc x).map bK)) none := by
  intro n
  induction n with
  | zero => intro x hx; obtain ⟨l, t, ks⟩ := x; simp only [Itm.size] at hx; omega
  | succ n ih =>
    intro x hx hn
    have hlen := enc_len x (by omega)
    obtain ⟨l, t, ks⟩ := x
    simp only [Itm.size] at hx hlen
    simp only [itV, itC_eq]
    cases l with
    | false =>
      by_cases hc : t.length = 1 ∧ t.getD 0 default < 128
      · have e : enc (.mk false t ks) = t := by unfold enc; rw [if_pos hc]
        rw [e]
        obtain ⟨h1, h2⟩ := hc
        have h3 : ((t.getD 0 default).toNat : Int) < 128 := by have : (t.getD 0 default).toNat < 128 := h2; omega
        have hv : V.s none [bK (t.getD 0 default)] = V.s none (t.map bK) := by
          match t, h1 with
          | [c], _ => rfl
        clear h2 hlen e
        refine LFx.mk' tt Try.func57 rfl rfl rfl (by kernel_rfl) rfl rfl fun F => ?_
        exact wk trueW trueW trueW
      · have e : enc (.mk false t ks) = Pk.head 128 t.length ++ t := by unfold enc; rw [if_neg hc]
        rw [e] at hlen ⊢
        rw [List.length_append] at hlen
        have c1 := head 128 (.inl rfl) t.length (by omega) 28
        rw [show (128 : UInt8).toNat = 128 from rfl] at c1
        generalize Pk.head 128 t.length = H at *
        clear e
        by_cases h1 : t.length = 1
        · have h3 : ¬ ((t.getD 0 default).toNat : Int) < 128 := fun h => hc ⟨h1, (show (t.getD 0 default).toNat < 128 by omega)⟩
          clear hc
          refine LFx.mk' tt Try.func57 rfl rfl rfl (by kernel_rfl) rfl rfl fun F => ?_
          exact wk trueW trueW trueW
        · clear hc
          refine LFx.mk' tt Try.func57 rfl rfl rfl (by kernel_rfl) rfl rfl fun F => ?_
          exact wk trueW trueW trueW
    | true =>
      have e : enc (.mk true t ks) = Pk.head 192 (encL ks).length ++ encL ks := by unfold enc; rfl
      rw [e] at hlen ⊢
      rw [List.length_append] at hlen
      have c2 := head 192 (.inr rfl) (encL ks).length (by omega) 46
      rw [show (192 : UInt8).toNat = 192 from rfl] at c2
      generalize Pk.head 192 (encL ks).length = H at *
      clear e
      have hkl := sizeL_len ks
      refine LFx.mk' tt Try.func57 rfl rfl rfl (by kernel_rfl) rfl rfl fun F => ?_
      refine wk ?_ trueW trueW
      refine LC.nilrow 3 3 5 1 rfl rfl rfl ?_
      refine LC.loop2 (fun i S => [(1, .p 1 0), (3, .s (some 3) (S.map bK)), (33, .s none (ks.map itV)), (34, .k (.int .i64 ((ks.length : Nat) : Int))), (35, .k (.int .i64 ((i : Nat) : Int)))]) (fun i S => [(1, .b [.k (.bool true), bV t, .s none (ks.map itV)]), (3, .r 5 1 S.length)]) (fun i S => i ≤ ks.length ∧ S = encL (ks.take i)) ((ks.length - ·)) (0) ([]) ⟨by omega, by rw [List.take_zero]; unfold encL; rfl⟩ ⟨rfl, rfl, rfl, rfl, rfl, trivial⟩ ⟨rfl, rfl, trivial⟩ rfl rfW rfW ?_
      rintro i S ⟨hi, hS⟩
      have hSl := encL_take_le ks i
      rw [← hS] at hSl
      rcases Nat.lt_or_ge i ks.length with h | h
      · have hm := sizeL_mem (getD_mem h)
        have c1 := ih (ks.getD i default) (by omega) (by omega)
        have hk3 := itC_len (ks.getD i default)
        have hE := encL_take h
        rw [← hS] at hE
        have hSl2 := encL_take_le ks (i + 1)
        rw [hE, List.length_append] at hSl2
        have hok : i + 1 ≤ ks.length ∧ S ++ enc (ks.getD i default) = encL (ks.take (i + 1)) := ⟨h, hE.symm⟩
        have hrf := itC_refs
        clear ih hS hE
        exact wk trueW trueW trueW
      · obtain rfl : i = ks.length := by omega
        rw [List.take_length] at hS
        subst hS
        clear ih
        exact wk trueW trueW trueW
end Pw
end Lf
open Go.RowKit Rg Wm Ar
set_option linter.unusedVariables false
set_option maxRecDepth 100000
namespace Lf
open Pk
namespace Sr
theorem WInt (n : Nat) (h : n < m64) : LF Try.prog 61 [uK n] (fun _ => wV n) none := by
  unfold wV
  rw [limbs_small h]
  refine LFx.mk' tt Try.func61 rfl rfl rfl (by kernel_rfl) rfl rfl fun F => ?_
  exact wk trueW trueW trueW
theorem beB_get (x : Nat) : ∀ n t, t < n → (beB x n).getD t default = UInt8.ofNat (x / 256 ^ (n - 1 - t) % 256)
  | 0, _, h => by omega
  | n + 1, 0, _ => by
    simp only [beB, List.getD_cons_zero, Nat.add_sub_cancel, Nat.sub_zero]
  | n + 1, t + 1, h => by
    simp only [beB, List.getD_cons_succ]
    rw [beB_get x n t (by omega)]
    congr 4
    omega
theorem wordB_get (x t : Nat) (h : t < 32) : (wordB x).getD t default = UInt8.ofNat (x / 256 ^ (31 - t) % 256) := by unfold wordB; exact beB_get x 32 t h
theorem take_get {α : Type} [Inhabited α] {l : List α} {t : Nat} (h : t < l.length) : l.take (t + 1) = l.take t ++ [l.getD t default] := by
  rw [List.take_succ_eq_append_getElem h, List.getD_eq_getElem?_getD, List.getElem?_eq_getElem h]; rfl
theorem byte_u8 {x a r : Nat} (h : x / 2 ^ (r * 8) % 256 = a % 256) : UInt8.ofNat (x / 2 ^ (r * 8)) = UInt8.ofNat a := by
  apply UInt8.toNat_inj.1
  rw [UInt8.toNat_ofNat', UInt8.toNat_ofNat']
  exact h
theorem WBytes (x : Nat) : LF Try.prog 80 [wV x] (fun _ => .s none ((wordB x).map bK)) none := by
  have hB := wordB_len x
  have hl := limbs_len x
  refine LFx.mk' tt Try.func80 rfl rfl rfl (by kernel_rfl) rfl rfl fun F => ?_
  refine wk ?_ trueW trueW
  refine LC.nilrow 3 60 5 1 rfl rfl rfl ?_
  refine LC.loop2 (fun j S => [(1, .p 1 0), (3, .s (some 60) (S.map bK)), (4, .k (.int .i64 ((j : Int) - 1)))]) (fun j S => [(1, .b ((limbs x).map uK)), (60, .r 5 1 S.length)]) (fun j S => j ≤ 4 ∧ S = (wordB x).take ((4 - j) * 8)) ((fun j => j)) (4) ([]) ⟨by omega, rfl⟩ ⟨rfl, rfl, rfl, trivial⟩ ⟨rfl, rfl, trivial⟩ rfl rfW rfW ?_
  rintro j S ⟨hj, hS⟩
  have hSl : S.length = (4 - j) * 8 := by rw [hS, List.length_take]; omega
  rcases Nat.eq_zero_or_pos j with h | h
  · subst h
    have hS' : S = wordB x := by rw [hS, List.take_of_length_le (by omega)]
    subst hS'
    clear hS hSl
    exact wk trueW trueW trueW
  · obtain ⟨m, rfl⟩ : ∃ m, j = m + 1 := ⟨j - 1, by omega⟩
    have e : ((m + 1 : Nat) : Int) - 1 = (m : Int) := by omega
    rw [e]
    refine wk ?_ trueW trueW
    refine LC.loop2 (fun k S2 => [(1, .p 1 0), (3, .s (some 60) (S2.map bK)), (4, .k (.int .i64 ((m : Nat) : Int))), (5, .k (.int .i64 (8 * (k : Int) - 8)))]) (fun k S2 => [(1, .b ((limbs x).map uK)), (60, .r 5 1 S2.length)]) (fun k S2 => k ≤ 8 ∧ S2 = (wordB x).take ((3 - m) * 8 + (8 - k))) ((fun k => k)) (8) (S) ⟨by omega, by rw [hS]; congr 1; omega⟩ ⟨rfl, rfl, rfl, rfl, trivial⟩ ⟨rfl, rfl, trivial⟩ rfl rfW rfW ?_
    rintro k S2 ⟨hk, hS2⟩
    have hSl2 : S2.length = (3 - m) * 8 + (8 - k) := by rw [hS2, List.length_take]; omega
    rcases Nat.eq_zero_or_pos k with h | h
    · subst h
      have hok : m ≤ 4 ∧ S2 = (wordB x).take ((4 - m) * 8) := ⟨by omega, by rw [hS2]; congr 1; omega⟩
      clear hS hS2
      exact wk trueW trueW trueW
    · obtain ⟨r, rfl⟩ : ∃ r, k = r + 1 := ⟨k - 1, by omega⟩
      have e1 : 8 * ((r + 1 : Nat) : Int) - 8 = 8 * (r : Int) := by omega
      rw [e1]
      have hlt := limbs_lt x m
      have hg : (limbs x).getD m default = limb x m := limbs_get x (by omega)
      have w1 : (((limbs x).getD m default : Nat) : Int).fdiv (2 ^ (min (8 * (r : Int)).toNat IntKind.u64.bits)) = (((limbs x).getD m default / 2 ^ (r * 8) : Nat) : Int) := by
        have := shr_u64 (a := (limbs x).getD m default) (s := r * 8) (by omega)
        rw [show 8 * (r : Int) = ((r * 8 : Nat) : Int) from by omega]
        exact this
      have hok : r ≤ 8 ∧ S2 ++ [UInt8.ofNat ((limbs x).getD m default / 2 ^ (r * 8))] = (wordB x).take ((3 - m) * 8 + (8 - r)) := ⟨by omega, by
        rw [show (3 - m) * 8 + (8 - r) = ((3 - m) * 8 + (8 - (r + 1))) + 1 from by omega, take_get (by omega), ← hS2, wordB_get _ _ (by omega), hg]
        congr 2
        apply byte_u8
        rw [limb_byte x m r (by omega), Nat.mod_mod]
        congr 3
        omega⟩
      clear hS hS2 hg e1
      exact wk trueW trueW trueW
theorem PNum (x : Nat) : LF Try.prog 60 [wV x] (fun _ => .s none ((numL (x % M256)).map bK)) none := by
  have c1 := WBytes x
  have hl := limbs_len x
  have hs := Pk.strip_num (wordB_num x)
  have hb := wordB_len x
  rw [← hs]
  generalize wordB x = B at *
  clear hs
  refine LFx.mk' tt Try.func60 rfl rfl rfl (by kernel_rfl) rfl rfl fun F => ?_
  refine wk ?_ trueW trueW
  refine LC.loopN (fun i => [(3, .s none (B.map bK)), (8, .s none (B.map bK)), (9, .k (.int .i64 ((B.length : Nat) : Int))), (10, .k (.int .i64 ((i : Nat) : Int)))]) (fun i => []) (fun i => i ≤ 32 ∧ Ps.strip (B.drop i) = Ps.strip B) ((32 - ·)) (0) ⟨by omega, rfl⟩ ⟨rfl, rfl, rfl, rfl, trivial⟩ trivial rfl rfW rfW ?_
  rintro i ⟨hi, hstr⟩
  by_cases h : i < 32
  · have hd := drop_get (l := B) (i := i) (by omega)
    by_cases hz : (B.getD i default).toNat = 0
    · have hz2 : ((B.getD i default).toNat : Int) = 0 := by rw [hz]; rfl
      have hok : i + 1 ≤ 32 ∧ Ps.strip (B.drop (i + 1)) = Ps.strip B := ⟨h, by rw [← hstr, hd, strip_cons _ _ (u8_zero hz)]⟩
      clear hd hstr
      exact wk trueW trueW trueW
    · have hz2 : ¬ ((B.getD i default).toNat : Int) = 0 := by omega
      have hv1 : Ps.strip B = B.drop i := by
        rw [← hstr, Ps.strip_id (l := B.drop i) (by rw [hd]; intro e; simp only [List.head?_cons, Option.some.injEq] at e; rw [e] at hz; exact hz rfl)]
      rw [hv1]
      clear hd hstr hv1
      exact wk trueW trueW trueW
  · have hv1 : Ps.strip B = [] := by
      rw [← hstr, List.drop_of_length_le (by omega)]; rfl
    rw [hv1]
    clear hstr hv1
    exact wk trueW trueW trueW
end Sr
end Lf
open Go.RowKit Rg Wm Ar
set_option linter.unusedVariables false
set_option maxRecDepth 100000
namespace Lf
open Pk
theorem item_b2 (t : List UInt8) (o : Option Nat) : ∃ cs, vfill (fun i => [(0, 1), (1, 1), (2, 1)][i]?) ([Z.bool, Z.sl, Z.sl].map Z.v) [(1, .s o (t.map bK))] = some cs ∧ V.cv.go (fun _ => false) true cs = itC (.mk false t []) := by
  refine ⟨[.k (.bool false), .s o (t.map bK), .nil], rfl, ?_⟩
  rw [itC_eq]
  cases o <;> rfl
namespace Sr
theorem PText (t : List UInt8) : LF Try.prog 63 [.s none (t.map bK)] (fun _ => itV (.mk false t [])) none := by
  obtain ⟨cs, b1, b2⟩ := item_b2 t none
  have hl := itC_len (.mk false t [])
  have hle : 0 + (itC (.mk false t [])).length ≤ 3 := by omega
  have hrf := itC_refs
  refine LFx.mk' tt Try.func63 rfl rfl rfl (by kernel_rfl) rfl rfl fun F => ?_
  exact wk trueW trueW trueW
theorem Text (t : List UInt8) : LF Try.prog 54 [.s none (t.map bK)] (fun _ => itV (.mk false t [])) none := by
  obtain ⟨cs, b1, b2⟩ := item_b2 t none
  have hl := itC_len (.mk false t [])
  have hle : 0 + (itC (.mk false t [])).length ≤ 3 := by omega
  have hrf := itC_refs
  refine LFx.mk' tt Try.func54 rfl rfl rfl (by kernel_rfl) rfl rfl fun F => ?_
  exact wk trueW trueW trueW
theorem phead (n : Nat) (l : Bool) (hn : n < 1073741824) : LF Try.prog 81 [.k (.int .i64 (n : Int)), .k (.bool l)] (fun _ => sK (Pk.head (if l then 192 else 128) n)) none := by
  have hlen := Pw.head_lt 0 n hn
  have hm : n < m64 := by unfold m64; omega
  have c1 := WInt n hm
  have c2 := PNum n
  rw [show n % M256 = n from Nat.mod_eq_of_lt (by unfold M256; have : m64 ≤ m64 ^ 4 := by unfold m64; decide
                                                  omega)] at c2
  by_cases h : n < 48
  · cases l
    · have e : Pk.head (if false then 192 else 128) n = [UInt8.ofNat (128 + n)] := by unfold Pk.head; rw [if_pos h]; rfl
      rw [e]
      have w1 : IntKind.i64.wrap (128 + (n : Int)) = ((128 + n : Nat) : Int) := by rw [wrap_i64 (by omega)]; omega
      have w2 : IntKind.u8.wrap ((128 + n : Nat) : Int) = ((UInt8.ofNat (128 + n)).toNat : Int) := to_u8b
      refine LFx.mk' tt Try.func81 rfl rfl rfl (by kernel_rfl) rfl rfl fun F => ?_
      exact wk trueW trueW trueW
    · have e : Pk.head (if true then 192 else 128) n = [UInt8.ofNat (192 + n)] := by unfold Pk.head; rw [if_pos h]; rfl
      rw [e]
      have w1 : IntKind.i64.wrap (192 + (n : Int)) = ((192 + n : Nat) : Int) := by rw [wrap_i64 (by omega)]; omega
      have w2 : IntKind.u8.wrap ((192 + n : Nat) : Int) = ((UInt8.ofNat (192 + n)).toNat : Int) := to_u8b
      refine LFx.mk' tt Try.func81 rfl rfl rfl (by kernel_rfl) rfl rfl fun F => ?_
      exact wk trueW trueW trueW
  · have hpos := numL_pos (n := n) (by omega)
    cases l
    · have e : Pk.head (if false then 192 else 128) n = [UInt8.ofNat (128 + 47 + (numL n).length)] ++ numL n := by
        unfold Pk.head; rw [if_neg h]
        show UInt8.ofNat (128 + 48 + ((numL n).length - 1)) :: numL n = _
        rw [show 128 + 48 + ((numL n).length - 1) = 128 + 47 + (numL n).length from by omega]; rfl
      rw [e]
      generalize numL n = L at *
      clear e
      have w1 : IntKind.i64.wrap ((128 + 47 : Int) + (L.length : Int)) = ((128 + 47 + L.length : Nat) : Int) := by rw [wrap_i64 (by omega)]; omega
      have w2 : IntKind.u8.wrap ((128 + 47 + L.length : Nat) : Int) = ((UInt8.ofNat (128 + 47 + L.length)).toNat : Int) := to_u8b
      refine LFx.mk' tt Try.func81 rfl rfl rfl (by kernel_rfl) rfl rfl fun F => ?_
      exact wk trueW trueW trueW
    · have e : Pk.head (if true then 192 else 128) n = [UInt8.ofNat (192 + 47 + (numL n).length)] ++ numL n := by
        unfold Pk.head; rw [if_neg h]
        show UInt8.ofNat (192 + 48 + ((numL n).length - 1)) :: numL n = _
        rw [show 192 + 48 + ((numL n).length - 1) = 192 + 47 + (numL n).length from by omega]; rfl
      rw [e]
      generalize numL n = L at *
      clear e
      have w1 : IntKind.i64.wrap ((192 + 47 : Int) + (L.length : Int)) = ((192 + 47 + L.length : Nat) : Int) := by rw [wrap_i64 (by omega)]; omega
      have w2 : IntKind.u8.wrap ((192 + 47 + L.length : Nat) : Int) = ((UInt8.ofNat (192 + 47 + L.length)).toNat : Int) := to_u8b
      refine LFx.mk' tt Try.func81 rfl rfl rfl (by kernel_rfl) rfl rfl fun F => ?_
      exact wk trueW trueW trueW
end Sr
end Lf
open Go.RowKit Rg Wm Ar
set_option maxRecDepth 100000
namespace Lf
open Pk
structure Hdr where
  parent : List UInt8
  number : Nat
  time : Nat
  keeper : List UInt8
  limit : Nat
  used : Nat
  bloom : List UInt8
  state : List UInt8
  txs : List UInt8
  receipts : List UInt8
  next : List UInt8
  deriving Inhabited, DecidableEq
structure Hdr.ok (h : Hdr) : Prop where
  parent : h.parent.length = 32
  number : h.number < 18446744073709551616
  time : h.time < 18446744073709551616
  keeper : h.keeper.length = 8
  limit : h.limit < 18446744073709551616
  used : h.used < 18446744073709551616
  bloom : h.bloom.length = 32
  state : h.state.length = 32
  txs : h.txs.length = 32
  receipts : h.receipts.length = 32
  next : h.next.length = 32
def hdrC (h : Hdr) : List V := h.parent.map bK ++ (uK h.number :: uK h.time :: (h.keeper.map bK ++ (uK h.limit :: uK h.used :: (h.bloom.map bK ++ (h.state.map bK ++ (h.txs.map bK ++ (h.receipts.map bK ++ h.next.map bK)))))))
theorem hdrC_eq (h : Hdr) : hdrC h = h.parent.map bK ++ (uK h.number :: uK h.time :: (h.keeper.map bK ++ (uK h.limit :: uK h.used :: (h.bloom.map bK ++ (h.state.map bK ++ (h.txs.map bK ++ (h.receipts.map bK ++ h.next.map bK))))))) := rfl
theorem hdrC_len {h : Hdr} (k : h.ok) : (hdrC h).length = 204 := by
  simp [hdrC, k.parent, k.keeper, k.bloom, k.state, k.txs, k.receipts, k.next]
theorem drop_at {a b : List V} {n : Nat} (h : a.length = n) (m : Nat) : (a ++ b).drop (n + m) = b.drop m := by
  subst h; rw [List.drop_append]; simp
theorem len_b (l : List UInt8) {n : Nat} (h : l.length = n) : (l.map bK).length = n := by rw [List.length_map, h]
theorem hd32 {h : Hdr} (k : h.ok) (m : Nat) : (hdrC h).drop (32 + m) = (uK h.number :: uK h.time :: (h.keeper.map bK ++ (uK h.limit :: uK h.used :: (h.bloom.map bK ++ (h.state.map bK ++ (h.txs.map bK ++ (h.receipts.map bK ++ h.next.map bK))))))).drop m := drop_at (len_b _ k.parent) m
theorem hd34 {h : Hdr} (k : h.ok) : (hdrC h).drop 34 = h.keeper.map bK ++ (uK h.limit :: uK h.used :: (h.bloom.map bK ++ (h.state.map bK ++ (h.txs.map bK ++ (h.receipts.map bK ++ h.next.map bK))))) := hd32 k 2
theorem hd42 {h : Hdr} (k : h.ok) (m : Nat) : (hdrC h).drop (42 + m) = (uK h.limit :: uK h.used :: (h.bloom.map bK ++ (h.state.map bK ++ (h.txs.map bK ++ (h.receipts.map bK ++ h.next.map bK))))).drop m := by
  have e : (hdrC h).drop (42 + m) = ((hdrC h).drop 34).drop (8 + m) := by rw [List.drop_drop]; congr 1; omega
  rw [e, hd34 k]; exact drop_at (len_b _ k.keeper) m
theorem hd44 {h : Hdr} (k : h.ok) : (hdrC h).drop 44 = h.bloom.map bK ++ (h.state.map bK ++ (h.txs.map bK ++ (h.receipts.map bK ++ h.next.map bK))) := hd42 k 2
theorem hd76 {h : Hdr} (k : h.ok) : (hdrC h).drop 76 = h.state.map bK ++ (h.txs.map bK ++ (h.receipts.map bK ++ h.next.map bK)) := by
  have e : (hdrC h).drop 76 = ((hdrC h).drop 44).drop (32 + 0) := by rw [List.drop_drop]
  rw [e, hd44 k]; exact drop_at (len_b _ k.bloom) 0
theorem hd108 {h : Hdr} (k : h.ok) : (hdrC h).drop 108 = h.txs.map bK ++ (h.receipts.map bK ++ h.next.map bK) := by
  have e : (hdrC h).drop 108 = ((hdrC h).drop 76).drop (32 + 0) := by rw [List.drop_drop]
  rw [e, hd76 k]; exact drop_at (len_b _ k.state) 0
theorem hd140 {h : Hdr} (k : h.ok) : (hdrC h).drop 140 = h.receipts.map bK ++ h.next.map bK := by
  have e : (hdrC h).drop 140 = ((hdrC h).drop 108).drop (32 + 0) := by rw [List.drop_drop]
  rw [e, hd108 k]; exact drop_at (len_b _ k.txs) 0
theorem hd172 {h : Hdr} (k : h.ok) : (hdrC h).drop 172 = h.next.map bK := by
  have e : (hdrC h).drop 172 = ((hdrC h).drop 140).drop (32 + 0) := by rw [List.drop_drop]
  rw [e, hd140 k]; exact drop_at (len_b _ k.receipts) 0
theorem take_at {a b : List V} {n : Nat} (h : a.length = n) : (a ++ b).take n = a := by subst h; simp
theorem hqP {h : Hdr} (k : h.ok) : CutQ (hdrC h) 32 h.parent := ⟨take_at (len_b _ k.parent), k.parent⟩
theorem hqK {h : Hdr} (k : h.ok) : CutQ ((hdrC h).drop 34) 8 h.keeper := ⟨by rw [hd34 k]; exact take_at (len_b _ k.keeper), k.keeper⟩
theorem hqB {h : Hdr} (k : h.ok) : CutQ ((hdrC h).drop 44) 32 h.bloom := ⟨by rw [hd44 k]; exact take_at (len_b _ k.bloom), k.bloom⟩
theorem hqS {h : Hdr} (k : h.ok) : CutQ ((hdrC h).drop 76) 32 h.state := ⟨by rw [hd76 k]; exact take_at (len_b _ k.state), k.state⟩
theorem hqT {h : Hdr} (k : h.ok) : CutQ ((hdrC h).drop 108) 32 h.txs := ⟨by rw [hd108 k]; exact take_at (len_b _ k.txs), k.txs⟩
theorem hqR {h : Hdr} (k : h.ok) : CutQ ((hdrC h).drop 140) 32 h.receipts := ⟨by rw [hd140 k]; exact take_at (len_b _ k.receipts), k.receipts⟩
theorem hqN {h : Hdr} (k : h.ok) : CutQ ((hdrC h).drop 172) 32 h.next := ⟨by rw [hd172 k]; rw [← len_b _ k.next]; exact List.take_length, k.next⟩
theorem part_num {ti : TI} {cs r : List V} {u : V} {off : Nat} (hd : ti.d.agg = false) (h : cs.drop off = u :: r) : ti.part cs off = some u := by
  have e : cs[off]? = some u := by
    have := congrArg (·[0]?) h
    simpa using this
  unfold TI.part
  rw [hd]
  exact e
theorem hdrC_bare (h : Hdr) : V.bare.go (hdrC h) = some (hdrC h) := by
  have hb : ∀ (l : List UInt8) (r : List V), V.bare.go r = some r → V.bare.go (l.map bK ++ r) = some (l.map bK ++ r) := by
    intro l
    induction l with
    | nil => intro r hr; exact hr
    | cons a l ih =>
      intro r hr
      rw [List.map_cons, List.cons_append, V.bare.go, ih r hr]
      rfl
  have hu : ∀ (n : Nat) (r : List V), V.bare.go r = some r → V.bare.go (uK n :: r) = some (uK n :: r) := fun n r hr => by
    rw [V.bare.go, hr]; rfl
  have hn : ∀ l : List UInt8, V.bare.go (l.map bK) = some (l.map bK) := fun l => by
    have := hb l [] rfl
    rwa [List.append_nil] at this
  rw [hdrC_eq]
  exact hb _ _ (hu _ _ (hu _ _ (hb _ _ (hu _ _ (hu _ _ (hb _ _ (hb _ _ (hb _ _ (hb _ _ (hn _))))))))))
theorem hdrC_refs (m : List (Nat × M)) (h : Hdr) : V.refs.go m (hdrC h) = true := by
  have hb : ∀ (l : List UInt8) (r : List V), V.refs.go m r = true → V.refs.go m (l.map bK ++ r) = true := by
    intro l
    induction l with
    | nil => intro r hr; exact hr
    | cons a l ih =>
      intro r hr
      rw [List.map_cons, List.cons_append, V.refs.go, ih r hr]
      rfl
  have hu : ∀ (n : Nat) (r : List V), V.refs.go m r = true → V.refs.go m (uK n :: r) = true := fun n r hr => by
    rw [V.refs.go, hr]; rfl
  have hn : ∀ l : List UInt8, V.refs.go m (l.map bK) = true := fun l => by
    have := hb l [] rfl
    rwa [List.append_nil] at this
  rw [hdrC_eq]
  exact hb _ _ (hu _ _ (hu _ _ (hb _ _ (hu _ _ (hu _ _ (hb _ _ (hb _ _ (hb _ _ (hb _ _ (hn _))))))))))
attribute [irreducible] hdrC
def bytI (l : List UInt8) : Itm := .mk false l []
def hdrKs (h : Hdr) : List (List UInt8) := [h.parent, numL h.number, numL h.time, numL h.limit, numL h.used, h.keeper, h.bloom, h.state, h.txs, h.receipts, h.next]
def hdrI (h : Hdr) : Itm := .mk true [] ((hdrKs h).map bytI)
def hdrB (h : Hdr) : List UInt8 := enc (hdrI h)
end Lf
open Go.RowKit Rg Wm Ar
set_option linter.unusedVariables false
set_option maxRecDepth 100000
namespace Lf
open Pk
namespace Sr
set_option maxHeartbeats 2000000 in
theorem PEncode : ∀ (n : Nat) (x : Itm), x.size ≤ n → n < 100000000 → LF Try.prog 64 [itV x] (fun _ => .s none ((enc x).map bK)) none := by
  intro n
  induction n with
  | zero => intro x hx; obtain ⟨l, t, ks⟩ := x; simp only [Itm.size] at hx; omega
  | succ n ih =>
    intro x hx hn
    have hlen := enc_len x (by omega)
    obtain ⟨l, t, ks⟩ := x
    simp only [Itm.size] at hx hlen
    simp only [itV, itC_eq]
    cases l with
    | false =>
      have hmt : t.length ≤ maxLen := by simp only [maxLen]; omega
      by_cases hc : t.length = 1 ∧ t.getD 0 default < 128
      · have e : enc (.mk false t ks) = t := by unfold enc; rw [if_pos hc]
        rw [e]
        obtain ⟨h1, h2⟩ := hc
        have h3 : ((t.getD 0 default).toNat : Int) < 128 := by have : (t.getD 0 default).toNat < 128 := h2; omega
        clear h2 hlen e ih
        refine LFx.mk' tt Try.func64 rfl rfl rfl (by kernel_rfl) rfl rfl fun F => ?_
        exact wk trueW trueW trueW
      · have e : enc (.mk false t ks) = Pk.head 128 t.length ++ t := by unfold enc; rw [if_neg hc]
        rw [e] at hlen ⊢
        rw [List.length_append] at hlen
        have c1 := phead t.length false (by omega)
        rw [show (if false then 192 else 128 : Nat) = 128 from rfl] at c1
        generalize Pk.head 128 t.length = H at *
        have hmx : (H ++ t).length ≤ maxLen := by rw [List.length_append]; simp only [maxLen]; omega
        clear e ih
        by_cases h1 : t.length = 1
        · have h3 : ¬ ((t.getD 0 default).toNat : Int) < 128 := fun h => hc ⟨h1, (show (t.getD 0 default).toNat < 128 by omega)⟩
          clear hc
          refine LFx.mk' tt Try.func64 rfl rfl rfl (by kernel_rfl) rfl rfl fun F => ?_
          exact wk trueW trueW trueW
        · clear hc
          refine LFx.mk' tt Try.func64 rfl rfl rfl (by kernel_rfl) rfl rfl fun F => ?_
          exact wk trueW trueW trueW
    | true =>
      have e : enc (.mk true t ks) = Pk.head 192 (encL ks).length ++ encL ks := by unfold enc; rfl
      rw [e] at hlen ⊢
      rw [List.length_append] at hlen
      have c2 := phead (encL ks).length true (by omega)
      rw [show (if true then 192 else 128 : Nat) = 192 from rfl] at c2
      generalize Pk.head 192 (encL ks).length = H at *
      have hmx : (H ++ encL ks).length ≤ maxLen := by rw [List.length_append]; simp only [maxLen]; omega
      clear e
      have hkl := sizeL_len ks
      refine LFx.mk' tt Try.func64 rfl rfl rfl (by kernel_rfl) rfl rfl fun F => ?_
      refine wk ?_ trueW trueW
      refine LC.loop2 (fun i S => [(1, .p 1 0), (3, sK S), (12, .s none (ks.map itV)), (13, .k (.int .i64 ((ks.length : Nat) : Int))), (14, .k (.int .i64 ((i : Nat) : Int)))]) (fun i S => [(1, .b [.k (.bool true), bV t, .s none (ks.map itV)])]) (fun i S => i ≤ ks.length ∧ S = encL (ks.take i)) ((ks.length - ·)) (0) ([]) ⟨by omega, by rw [List.take_zero]; unfold encL; rfl⟩ ⟨rfl, rfl, rfl, rfl, rfl, trivial⟩ ⟨rfl, trivial⟩ rfl rfW rfW ?_
      rintro i S ⟨hi, hS⟩
      have hSl := encL_take_le ks i
      rw [← hS] at hSl
      rcases Nat.lt_or_ge i ks.length with h | h
      · have hm := sizeL_mem (Lf.getD_mem h)
        have c1 := ih (ks.getD i default) (by omega) (by omega)
        have hk3 := itC_len (ks.getD i default)
        have hk4 : 0 + (itC (ks.getD i default)).length ≤ 3 := by omega
        have hE := encL_take h
        rw [← hS] at hE
        have hSl2 := encL_take_le ks (i + 1)
        rw [hE, List.length_append] at hSl2
        have hok : i + 1 ≤ ks.length ∧ S ++ enc (ks.getD i default) = encL (ks.take (i + 1)) := ⟨h, hE.symm⟩
        have hrf := itC_refs
        clear ih hS hE
        exact wk trueW trueW trueW
      · obtain rfl : i = ks.length := by omega
        rw [List.take_length] at hS
        subst hS
        clear ih
        exact wk trueW trueW trueW
end Sr
end Lf
open Go.RowKit Rg Wm Ar
set_option linter.unusedVariables false
set_option maxRecDepth 100000
namespace Lf
open Pk
theorem numL64 {s : Nat} (h : s < 18446744073709551616) : (numL s).length ≤ 8 := numL_len (by simpa using h)
theorem mod256 {s : Nat} (h : s < 18446744073709551616) : s % M256 = s := Nat.mod_eq_of_lt (by unfold M256 m64; omega)
namespace Sr
theorem PList0 : LF Try.prog 62 [.nil] (fun _ => .a [.k (.bool true), .nil, .nil]) none := by
  refine LFx.mk' tt Try.func62 rfl rfl rfl (by kernel_rfl) rfl rfl fun F => ?_
  exact wk trueW trueW trueW
theorem map_take {α β : Type} [Inhabited α] {f : α → β} {l : List α} {i : Nat} (h : i < l.length) : (l.take i).map f ++ [f (l.getD i default)] = (l.take (i + 1)).map f := by
  rw [take_get h, List.map_append]; rfl
end Sr
end Lf
open Go.RowKit Rg Wm Ar
set_option linter.unusedVariables false
set_option maxRecDepth 100000
namespace Lf
open Pk
theorem hdrKs_len {h : Hdr} (k : h.ok) : ∀ l ∈ hdrKs h, l.length ≤ 32 := by
  intro l hl
  have h1 := numL64 k.number
  have h2 := numL64 k.time
  have h3 := numL64 k.limit
  have h4 := numL64 k.used
  have h5 := k.parent
  have h6 := k.keeper
  have h7 := k.bloom
  have h8 := k.state
  have h9 := k.txs
  have h10 := k.receipts
  have h11 := k.next
  simp only [hdrKs, List.mem_cons, List.not_mem_nil, or_false] at hl
  rcases hl with rfl | rfl | rfl | rfl | rfl | rfl | rfl | rfl | rfl | rfl | rfl <;> omega
theorem sizeL_byt : ∀ {l : List (List UInt8)}, (∀ x ∈ l, x.length ≤ 32) → Itm.sizeL (l.map bytI) ≤ 34 * l.length
  | [], _ => by simp [Itm.sizeL]
  | s :: r, h => by
    have h1 := h s (by simp)
    have h2 := sizeL_byt (l := r) fun x hx => h x (by simp [hx])
    have h3 : (bytI s).size = 1 + s.length := by unfold bytI; simp [Itm.size, Itm.sizeL]
    simp only [List.map_cons, Itm.sizeL, List.length_cons]
    omega
theorem hdrI_size {h : Hdr} (k : h.ok) : (hdrI h).size ≤ 375 := by
  have h1 := sizeL_byt (hdrKs_len k)
  have h2 : (hdrKs h).length = 11 := rfl
  rw [h2] at h1
  unfold hdrI
  simp only [Itm.size, List.length_nil]
  omega
theorem hdrB_len {h : Hdr} (k : h.ok) : (hdrB h).length ≤ 3375 := by
  have h1 := hdrI_size k
  have h2 := enc_len (hdrI h) (by omega)
  unfold hdrB
  omega
namespace Sr
set_option maxHeartbeats 4000000 in
theorem BWrite (h : Hdr) (k : h.ok) : LF Try.prog 40 [.a (hdrC h)] (fun _ => .s none ((hdrB h).map bK)) none := by
  have cE := PEncode 375 (hdrI h) (hdrI_size k) (by omega)
  unfold hdrB
  unfold hdrI at *
  generalize ho : enc (.mk true [] ((hdrKs h).map bytI)) = out at *
  simp only [itV, itC_eq] at cE
  clear ho
  have c1 := WInt h.number k.number
  have c2 := WInt h.time k.time
  have c3 := WInt h.limit k.limit
  have c4 := WInt h.used k.used
  have c5 := PNum h.number
  have c6 := PNum h.time
  have c7 := PNum h.limit
  have c8 := PNum h.used
  rw [mod256 k.number] at c5
  rw [mod256 k.time] at c6
  rw [mod256 k.limit] at c7
  rw [mod256 k.used] at c8
  have c9 := PList0
  have hfb : FrzBox 1 1 := ⟨⟩
  have hbare := hdrC_bare h
  have hl := hdrC_len k
  have q1 := hqP k
  have q2 := hqK k
  have q3 := hqB k
  have q4 := hqS k
  have q5 := hqT k
  have q6 := hqR k
  have q7 := hqN k
  have ld1 : ∀ {ti : TI}, ti.d.agg = false → ti.part ((hdrC h).drop 32) 0 = some (uK h.number) := fun hd => part_num hd (hd32 k 0)
  have ld2 : ∀ {ti : TI}, ti.d.agg = false → ti.part ((hdrC h).drop 33) 0 = some (uK h.time) := fun hd => part_num hd (hd32 k 1)
  have ld3 : ∀ {ti : TI}, ti.d.agg = false → ti.part ((hdrC h).drop 42) 0 = some (uK h.limit) := fun hd => part_num hd (hd42 k 0)
  have ld4 : ∀ {ti : TI}, ti.d.agg = false → ti.part ((hdrC h).drop 43) 0 = some (uK h.used) := fun hd => part_num hd (hd42 k 1)
  have hrf := hdrC_refs
  refine LFx.mk' tt Try.func40 rfl rfl rfl (by kernel_rfl) rfl rfl fun F => ?_
  refine wk ?_ trueW trueW
  refine LC.nilcell 4 2 60 109 3 rfl rfl rfl (by decide) rfl ?_
  refine LC.loop2 (fun i S => [(4, .p 4 0), (39, .s (some 37) ((hdrKs h).map bV)), (40, .k (.int .i64 ((11 : Nat) : Int))), (41, .k (.int .i64 ((i : Nat) : Int)))]) (fun i S => [(4, .b [.k (.bool true), .nil, .s (some 60) (S.map itV)]), (37, .r 41 1 11), (60, .r 109 3 S.length)]) (fun i S => i ≤ 11 ∧ S = ((hdrKs h).take i).map bytI) ((11 - ·)) (0) ([]) ⟨by omega, rfl⟩ ⟨rfl, rfl, rfl, rfl, trivial⟩ ⟨rfl, rfl, rfl, trivial⟩ rfl rfW rfW ?_
  rintro i S ⟨hi, hS⟩
  have hSl : S.length = i := by
    rw [hS, List.length_map, List.length_take]
    have : (hdrKs h).length = 11 := rfl
    omega
  have z1 : ∀ e ∈ S.map itV, e.cells.length = 3 := fun e he => by obtain ⟨x, _, rfl⟩ := List.mem_map.1 he; exact itC_len x
  have hkl : (hdrKs h).length = 11 := rfl
  clear ld1 ld2 ld3 ld4 q1 q2 q3 q4 q5 q6 q7 hbare hrf c1 c2 c3 c4 c5 c6 c7 c8 c9
  generalize hdrKs h = K at *
  by_cases hlt : i < 11
  · have c2 := PText (K.getD i default)
    have hok : i + 1 ≤ 11 ∧ S ++ [bytI (K.getD i default)] = (K.take (i + 1)).map bytI := ⟨hlt, by rw [hS]; exact map_take (by omega)⟩
    unfold bytI at hok
    have z2 := itC_len (.mk false (K.getD i default) [])
    have hrf := itC_refs
    have hbr := itC_bare
    clear hS cE
    exact wk trueW trueW trueW
  · have hS' : S = K.map bytI := by rw [hS, List.take_of_length_le (by omega)]
    subst hS'
    have c2 := cE
    clear hS cE
    exact wk trueW trueW trueW
end Sr
end Lf
open Go.RowKit Rg Wm Ar
set_option linter.unusedVariables false
set_option maxRecDepth 100000
namespace Lf
open Pk
theorem refs_mapbV (m : List (Nat × M)) : ∀ l : List (List UInt8), V.refs.go m (l.map bV) = true
  | [] => rfl
  | x :: r => by rw [List.map_cons, V.refs.go, refs_mapbV m r]; rfl
namespace Sr
theorem ListR0 (ks : List Itm) : LM Try.prog 53 [.s (some 1000) (ks.map itV)] [(1000, .r 109 3 ks.length)] fun o m => o = .ret (.a [.k (.bool true), .nil, .s (some 1000) (ks.map itV)]) ∧ m = [(1000, .r 109 3 ks.length)] := by
  refine LM.enter tt Try.func53 rfl rfl rfl (by kernel_rfl) rfl rfl rfl (fun o mo h => by rw [h.2]; rfl) fun F _ => ?_
  exact wk trueW trueW trueW
theorem ListR (ks : List Itm) (k : Nat) : LM Try.prog 53 [.s (some k) (ks.map itV)] [(k, .r 109 3 ks.length)] fun o m => o = .ret (.a [.k (.bool true), .nil, .s (some k) (ks.map itV)]) ∧ m = [(k, .r 109 3 ks.length)] :=
  LM.gen [1000] [k] (by simp) (by simp) rfl (ListR0 ks) fun ρ hρ => by
    simp at hρ
    refine ⟨?_, ?_, ?_, ?_⟩
    · simp [V.ren, hρ]
    · simp [Mem.ren, M.ren, hρ]
    · simp only [Out.ren, V.ren, V.ren.go, hρ]
    · simp [Mem.ren, M.ren, hρ]
set_option maxHeartbeats 4000000 in
theorem Write (h : Hdr) (k : h.ok) : LF Try.prog 37 [.a (hdrC h)] (fun _ => .s none ((hdrB h).map bK)) none := by
  have cE := Pw.Encode 375 (hdrI h) (hdrI_size k) (by omega)
  unfold hdrB
  unfold hdrI at *
  generalize ho : enc (.mk true [] ((hdrKs h).map bytI)) = out at *
  simp only [itV, itC_eq] at cE
  clear ho
  have c1 := ListR [bytI h.parent]
  have c2 := Text h.parent
  have hfb : FrzBox 1 1 := ⟨⟩
  have hbare := hdrC_bare h
  have hl := hdrC_len k
  have q1 := hqP k
  have z2 := itC_len (bytI h.parent)
  have hrf := itC_refs
  have hbr := itC_bare
  have kn := numL64 k.number
  unfold bytI at c1 z2
  have q2 := hqK k
  have q3 := hqB k
  have q4 := hqS k
  have q5 := hqT k
  have q6 := hqR k
  have q7 := hqN k
  have ld1 : ∀ {ti : TI}, ti.d.agg = false → ti.part ((hdrC h).drop 32) 0 = some (uK h.number) := fun hd => part_num hd (hd32 k 0)
  have ld2 : ∀ {ti : TI}, ti.d.agg = false → ti.part ((hdrC h).drop 33) 0 = some (uK h.time) := fun hd => part_num hd (hd32 k 1)
  have ld3 : ∀ {ti : TI}, ti.d.agg = false → ti.part ((hdrC h).drop 42) 0 = some (uK h.limit) := fun hd => part_num hd (hd42 k 0)
  have ld4 : ∀ {ti : TI}, ti.d.agg = false → ti.part ((hdrC h).drop 43) 0 = some (uK h.used) := fun hd => part_num hd (hd42 k 1)
  have hkl : (hdrKs h).length = 11 := rfl
  refine LFx.mk' tt Try.func37 rfl rfl rfl (by kernel_rfl) rfl rfl fun F => ?_
  refine wk ?_ trueW trueW
  refine LC.loop2 (fun i S => [(1, .q (hdrC h)), (3, .p 3 0), (21, .a ([h.number, h.time, h.limit, h.used].map uK)), (22, .k (.int .i64 ((i : Nat) : Int)))]) (fun i S => [(3, .b [.k (.bool true), .nil, .s (some 11) (S.map itV)]), (11, .r 109 3 S.length)]) (fun i S => i ≤ 4 ∧ S = ((hdrKs h).take (1 + i)).map bytI) ((4 - ·)) (0) ([bytI h.parent]) ⟨by omega, rfl⟩ ⟨rfl, rfl, rfl, rfl, trivial⟩ ⟨rfl, rfl, trivial⟩ rfl rfW rfW ?_
  rintro i S ⟨hi, hS⟩
  have hSl : S.length = 1 + i := by rw [hS, List.length_map, List.length_take]; omega
  have z1 : ∀ e ∈ S.map itV, e.cells.length = 3 := fun e he => by obtain ⟨x, _, rfl⟩ := List.mem_map.1 he; exact itC_len x
  by_cases hlt : i < 4
  · have hx : [h.number, h.time, h.limit, h.used].getD i default < 18446744073709551616 := by
      rcases i with _ | _ | _ | _ | i
      · exact k.number
      · exact k.time
      · exact k.limit
      · exact k.used
      · omega
    have hK : (hdrKs h).getD (1 + i) default = numL ([h.number, h.time, h.limit, h.used].getD i default) := by
      rcases i with _ | _ | _ | _ | i
      · rfl
      · rfl
      · rfl
      · rfl
      · omega
    have c3 := Wo.IntW ([h.number, h.time, h.limit, h.used].getD i default) hx
    have c4 := Pw.Num ([h.number, h.time, h.limit, h.used].getD i default)
    rw [mod256 hx] at c4
    have c5 := Text (numL ([h.number, h.time, h.limit, h.used].getD i default))
    have hok : i + 1 ≤ 4 ∧ S ++ [bytI (numL ([h.number, h.time, h.limit, h.used].getD i default))] = ((hdrKs h).take (1 + (i + 1))).map bytI := ⟨hlt, by rw [hS, ← hK]; exact map_take (by omega)⟩
    unfold bytI at hok
    have z3 := itC_len (.mk false (numL ([h.number, h.time, h.limit, h.used].getD i default)) [])
    have hnl : [h.number, h.time, h.limit, h.used].length = 4 := rfl
    clear hS cE hK hfb hbare q1 q2 q3 q4 q5 q6 q7 ld1 ld2 ld3 ld4 c1 c2 hkl
    generalize [h.number, h.time, h.limit, h.used] = Ns at *
    exact wk trueW trueW trueW
  · obtain rfl : i = 4 := by omega
    clear hfb c1 c2 ld1 ld2 ld3 ld4
    refine wk ?_ trueW trueW
    refine LC.loop2 (fun j S => [(3, .p 3 0), (47, .a ([h.keeper, h.bloom, h.state, h.txs, h.receipts, h.next].map bV)), (48, .k (.int .i64 ((j : Nat) : Int)))]) (fun j S => [(3, .b [.k (.bool true), .nil, .s (some 11) (S.map itV)]), (11, .r 109 3 S.length)]) (fun j S => j ≤ 6 ∧ S = ((hdrKs h).take (5 + j)).map bytI) ((6 - ·)) (0) (S) ⟨by omega, hS⟩ ⟨rfl, rfl, rfl, trivial⟩ ⟨rfl, rfl, trivial⟩ rfl rfW rfW ?_
    rintro j S ⟨hj, hS⟩
    have hSl : S.length = 5 + j := by rw [hS, List.length_map, List.length_take]; omega
    have z1 : ∀ e ∈ S.map itV, e.cells.length = 3 := fun e he => by obtain ⟨x, _, rfl⟩ := List.mem_map.1 he; exact itC_len x
    by_cases hlt : j < 6
    · have hK : (hdrKs h).getD (5 + j) default = [h.keeper, h.bloom, h.state, h.txs, h.receipts, h.next].getD j default := by
        rcases j with _ | _ | _ | _ | _ | _ | j
        · rfl
        · rfl
        · rfl
        · rfl
        · rfl
        · rfl
        · omega
      have c5 := Text ([h.keeper, h.bloom, h.state, h.txs, h.receipts, h.next].getD j default)
      have hok : j + 1 ≤ 6 ∧ S ++ [bytI ([h.keeper, h.bloom, h.state, h.txs, h.receipts, h.next].getD j default)] = ((hdrKs h).take (5 + (j + 1))).map bytI := ⟨hlt, by rw [hS, ← hK]; exact map_take (by omega)⟩
      unfold bytI at hok
      have z3 := itC_len (.mk false ([h.keeper, h.bloom, h.state, h.txs, h.receipts, h.next].getD j default) [])
      have hnl : [h.keeper, h.bloom, h.state, h.txs, h.receipts, h.next].length = 6 := rfl
      clear hS cE hK hbare q1 q2 q3 q4 q5 q6 q7 hkl
      generalize [h.keeper, h.bloom, h.state, h.txs, h.receipts, h.next] = Ns at *
      have hrg := refs_mapbV
      exact wk trueW trueW trueW
    · have hS' : S = (hdrKs h).map bytI := by rw [hS, List.take_of_length_le (by omega)]
      subst hS'
      have c2 := cE
      clear hS cE q1 q2 q3 q4 q5 q6 q7
      exact wk trueW trueW trueW
theorem HSumB (h : Hdr) (k : h.ok) : LF Try.prog 19 [.a (hdrC h)] (fun _ => .a ((sumB (hdrB h)).map bK)) none := by
  have c1 := Write h k
  have hbl := hdrB_len k
  have c2 := Sp.Sum (hdrB h) (by omega)
  have hsl := sumB_len (hdrB h)
  have hl := hdrC_len k
  have hrf := hdrC_refs
  generalize hdrB h = B at *
  generalize sumB B = sm at *
  refine LFx.mk' tt Try.func19 rfl rfl rfl (by kernel_rfl) rfl rfl fun F => ?_
  exact wk trueW trueW trueW
end Sr
end Lf
open Go.RowKit Rg
set_option maxRecDepth 100000
namespace Lf
namespace St
theorem laidV : laidOutB Try.prog = true := by kernel_rfl
theorem mapM_some {α β : Type} {f : α → Option β} : ∀ {l : List α}, (∀ x ∈ l, ∃ y, f x = some y) → ∃ r, l.mapM f = some r
  | [], _ => ⟨[], rfl⟩
  | x :: r, h => by
    obtain ⟨y, hy⟩ := h x (by simp)
    obtain ⟨s, hs⟩ := mapM_some (l := r) fun z hz => h z (by simp [hz])
    exact ⟨y :: s, by simp [List.mapM_cons, hy, hs]⟩
theorem u_u8 : Try.prog.underlying 5 = some (.int .u8) := by kernel_rfl
theorem u_hash : Try.prog.underlying 23 = some (.array 32 5) := by kernel_rfl
theorem c_u8 : Try.prog.cellsOf 5 = 1 := by kernel_rfl
theorem c_hash : Try.prog.cellsOf 23 = 32 := by kernel_rfl
theorem size_ge : ∃ n, Try.prog.types.size + 1 = n + 1 + 1 + 1 := by
  have h : Nat.ble 3 Try.prog.types.size = true := by kernel_rfl
  have := Nat.le_of_ble_eq_true h
  exact ⟨Try.prog.types.size - 2, by omega⟩
theorem kl_array {P : Program} {d t n e : Nat} {cs : List Value} (h : P.underlying t = some (.array n e)) : P.keyLits (d + 1) t cs = if cs.length = P.cellsOf t then ((List.range n).mapM fun i => P.keyLits d e ((cs.drop (i * P.cellsOf e)).take (P.cellsOf e))).map List.flatten else none := by
  simp only [Program.keyLits, h]
theorem lits_u8 (d : Nat) (b : UInt8) : Try.prog.keyLits (d + 1) 5 [.int .u8 (b.toNat : Int)] = some [.int .u8 (b.toNat : Int)] := by
  have := b.toNat_lt
  simp only [Program.keyLits, u_u8]
  rw [if_pos]
  simp [Lit.wf, IntKind.min, IntKind.max, IntKind.bits, IntKind.signed]
  omega
theorem lits_hash (d : Nat) (l : List UInt8) (h : l.length = 32) : ∃ r, Try.prog.keyLits (d + 1 + 1) 23 (l.map fun b => Value.int .u8 (b.toNat : Int)) = some r := by
  rw [kl_array u_hash, if_pos (by rw [c_hash, List.length_map, h])]
  obtain ⟨r, hr⟩ := mapM_some (l := List.range 32) (f := fun i => Try.prog.keyLits (d + 1) 5 (((l.map fun b => Value.int .u8 (b.toNat : Int)).drop (i * Try.prog.cellsOf 5)).take (Try.prog.cellsOf 5))) fun i hi => by
    have hi' : i < l.length := by rw [h]; exact List.mem_range.1 hi
    refine ⟨[.int .u8 ((l[i]).toNat : Int)], ?_⟩
    have e : ((l.map fun b => Value.int .u8 (b.toNat : Int)).drop i).take 1 = [Value.int .u8 ((l[i]).toNat : Int)] := by
      rw [← List.map_drop, ← List.map_take, List.drop_eq_getElem_cons hi']
      rfl
    rw [c_u8, Nat.mul_one, e]
    exact lits_u8 d _
  exact ⟨_, by rw [hr]; rfl⟩
end St
def hashL (h : List UInt8) : List Value := h.map fun b => Value.int .u8 (b.toNat : Int)
def hashK (h : List UInt8) : Value := .agg (hashL h).toArray
theorem hash_rep {w : World} {g : Gh} {h : List UInt8} {v : Value} (hr : Rep w g (.a (h.map bK)) v) : v = hashK h := by
  have e : h.map bK = (hashL h).map .k := by unfold hashL; rw [List.map_map]; rfl
  rw [e] at hr
  exact rep_plain hr
theorem hashL_inj : ∀ {a b : List UInt8}, hashL a = hashL b → a = b
  | [], [], _ => rfl
  | [], _ :: _, h => by simp [hashL] at h
  | _ :: _, [], h => by simp [hashL] at h
  | x :: r, y :: s, h => by
    simp only [hashL, List.map_cons, List.cons.injEq, Value.int.injEq, true_and] at h
    have e1 : x = y := UInt8.toNat_inj.1 (Int.ofNat.inj h.1)
    rw [e1, hashL_inj (a := r) (b := s) h.2]
theorem hashK_inj {a b : List UInt8} (h : hashK a = hashK b) : a = b := hashL_inj (by simpa using congrArg Array.toList (Value.agg.inj h))
theorem wideH : (match Try.prog.underlying 23 with | some (.array _ _) | some (.struct _) => true | _ => false) = true := by kernel_rfl
theorem lawH : Maps.Keyed Try.prog 23 := Maps.Keyed.of_law (deep_law_laid St.laidV (m := 3) (by omega) (of_decide_eq_true (by kernel_rfl)) (by kernel_rfl) wideH)
theorem key_hash : Try.prog.keyType 23 = true := by kernel_rfl
theorem key_hashK {h : List UInt8} (hl : h.length = 32) : ∃ l, keyOf Try.prog 23 (hashK h) = some l := by
  obtain ⟨n, hn⟩ := St.size_ge
  obtain ⟨r, hr⟩ := St.lits_hash (n + 1) h hl
  have hc : (hashK h).cells.toList = hashL h := by simp [hashK, Value.cells]
  have hf : (hashK h).formed Try.prog 23 = true := by
    simp [hashK, Value.formed, St.u_hash, St.c_hash, hashL, hl]
  unfold keyOf
  rw [St.u_hash]
  simp only
  rw [if_pos (by rw [key_hash, hf]; rfl), hn, hc]
  have : Try.prog.keyLits (n + 1 + 1 + 1) 23 (hashL h) = some r := hr
  rw [this]
  exact ⟨_, rfl⟩
theorem keyH {h : List UInt8} (hl : h.length = 32) : KeyV Try.prog 23 (.a (h.map bK)) (hashK h) := ⟨key_hashK hl, fun _ _ _ hr => hash_rep hr⟩
end Lf
open Go.RowKit Rg
namespace Lf
section
variable {P : Program} {o : Oper} {env : Env}
theorem Does.insN {T i kt : Nat} {x ix y : Operand} {u v v' : V} {kv zv : Value} {es : List (Value × V)} (M : MapTy P T kt zv) (hkey : KeyV P kt u kv) (hks : KeysV P kt es)
    (ho : o.op = .insert T x ix y) (hx : evo env x = some (.mp i)) (hi : evo env ix = some u) (hy : evo env y = some v) (hb : v.bare = some v') (hno : MNo es kv) : Does P o env (.k undef) [(i, some (.m es), some (.m (es ++ [(kv, v')])))] := by
  refine ⟨fun F g a w mem h1 h2 h3 h4 _ K' Q hK => ?_⟩
  obtain ⟨e, hu, hzv⟩ := M.ex
  obtain ⟨l, hk⟩ := hkey.k
  have hm := h4 _ _ _ mem_one
  obtain ⟨b, off, hg, hM⟩ := h2.map hm
  obtain ⟨en, q1, q2, q3, q4⟩ := hM.own
  have r1 := h1 x (by simp [ho, Op.operands]) _ hx
  have r2 := hkey.ex _ _ _ (h1 ix (by simp [ho, Op.operands]) _ hi)
  have r3 := (h1 y (by simp [ho, Op.operands]) _ hy).to_bare hb
  generalize hy1 : a.eval x = m at r1
  obtain rfl : m = .map (some b) := by
    cases r1 with
    | mp h => rw [hg] at h; cases h; rfl
  have hkeys : ∀ z ∈ en.toList, (∃ l, keyOf P kt z.key = some l) ∧ z.key ≠ kv := fun z hz' => by
    obtain ⟨j, hj⟩ := List.mem_iff_getElem?.1 hz'
    have hj' : en[j]? = some z := by simpa using hj
    have hlt : j < es.length := by have := (Array.getElem?_eq_some_iff.1 hj').1; omega
    have := q4 j _ _ z (List.getElem?_eq_getElem hlt) hj'
    rw [this.1]
    exact ⟨hks.all _ (List.getElem_mem hlt), hno.no _ (List.getElem_mem hlt)⟩
  rcases M.K.find w hk en.toList (fun z hz' => (hkeys z hz').1) with ⟨p1, p2⟩ | ⟨j, z, p1, p2, p3⟩
  · have hsz : (en.push { key := kv, val := a.eval y, born := en.size }).size = en.size + 1 := by simp
    obtain ⟨k1, k2, k3⟩ := h2.setMap h3 (es' := es ++ [(kv, v')]) (en' := en.push { key := kv, val := a.eval y, born := en.size }) hm hg hM (by simp [q2]) (fun j z hj => by
      rw [Array.getElem?_push] at hj
      split at hj
      · cases hj; simp; omega
      · exact q3 j z hj) (fun j k v z h1 h2 => by
      rw [Array.getElem?_push] at h2
      split at h2
      · rename_i e1
        cases h2
        rw [e1, q2, List.getElem?_append_right (Nat.le_refl _)] at h1
        simp at h1
        obtain ⟨rfl, rfl⟩ := h1
        exact ⟨rfl, r3⟩
      · have hlt := (Array.getElem?_eq_some_iff.1 h2).1
        rw [List.getElem?_append_left (by omega)] at h1
        exact q4 j k v z h1 h2)
    unfold Oper.wp
    have hrun : (execOp a.eval o).run P w = .ok .skip { w with heap := w.heap.setIfInBounds b (.map (en.push { key := kv, val := a.eval y, born := en.size }) (en.push { key := kv, val := a.eval y, born := en.size }).size) } := by
      rw [hsz]
      simp [execOp, ho, hy1, r2, Instr.mapUpdate, run_underlying hu, MapKept.run_getObj_map q1, M.K.check w _ hk, p1, Result.andThen, MapKept.run_setObj_map _ q1]
    rw [hrun]
    exact hK _ g _ k1 k2 k3 (.k _)
  · exact absurd p3 (hkeys z (List.mem_of_getElem? p2)).2
end
section
variable {P : Program} {F : Fr0} {N : Nat} {ops : Array Oper} {chk : List (Nat × Tch) → Bool} {K : Env → Mem → Prop} {acc : List (Nat × Tch)} {env : Env} {mem : Mem} {i d : Nat} {o : Oper} {rs : List (Nat × Oper)}
theorem DR.si {j T kt : Nat} {x ix y : Operand} {u v v' : V} {kv zv : Value} {es es' : List (Value × V)} (hg : gd ops env o = some true) (hds : o.dst = none) (ho : o.op = .insert T x ix y) (hx : evo env x = some (.mp j)) (hi : evo env ix = some u) (hy : evo env y = some v) (hm : aget mem j = some (.m es))
    (M : MapTy P T kt zv) (hkey : KeyV P kt u kv) (hks : KeysV P kt es) (hno : MNo es kv) (hb : v.bare = some v') (hes : es ++ [(kv, v')] = es') (hK : DR P F N ops chk K rs ((i, [(j, some (.m es), some (.m es'))]) :: acc) env ((j, .m es') :: mem)) : DR P F N ops chk K ((i, o) :: rs) acc env mem := by
  subst hes
  exact DR.ss hg hds (Does.insN M hkey hks ho hx hi hy hb hno) hm hK
end
section
variable {P : Program} {F : Fr0} {N : Nat} {Q : LQ} {env : Env} {mem : Mem} {ops : Array Oper} {o : Oper} {r : List Oper}
theorem LS.si {j T kt : Nat} {x ix y : Operand} {u v v' : V} {kv zv : Value} {es es' : List (Value × V)} (hg : gd ops env o = some true) (hds : o.dst = none) (ho : o.op = .insert T x ix y) (hx : evo env x = some (.mp j)) (hi : evo env ix = some u) (hy : evo env y = some v) (hm : aget mem j = some (.m es))
    (M : MapTy P T kt zv) (hkey : KeyV P kt u kv) (hks : KeysV P kt es) (hno : MNo es kv) (hb : v.bare = some v') (hes : es ++ [(kv, v')] = es') (hK : LS P F N ops r Q env ((j, .m es') :: mem)) : LS P F N ops (o :: r) Q env mem := by
  subst hes
  exact LS.ss hg hds (Does.insN M hkey hks ho hx hi hy hb hno) hm hK
end
end Lf
open Go.RowKit Rg
set_option linter.unusedVariables false
set_option maxRecDepth 100000
namespace Lf
open Pk
namespace Cm
open Sq
abbrev hdV (h : Hdr) : V := .a (hdrC h)
abbrev hdsV (l : List Hdr) : V := .s none (l.map hdV)
abbrev nums (all : List Hdr) (i : Nat) : Nat := (all.getD i default).number
theorem num_q {ti : TI} {h : Hdr} (k : h.ok) (hd : ti.d.agg = false) : ti.part ((hdrC h).drop 32) 0 = some (uK h.number) := part_num hd (by
  rw [List.drop_zero]
  exact hd32 k 0)
theorem getD_ok {all : List Hdr} (h : ∀ x ∈ all, x.ok) {i : Nat} (hi : i < all.length) : (all.getD i default).ok := h _ (by
  rw [List.getD_eq_getElem?_getD, List.getElem?_eq_getElem hi]
  exact List.getElem_mem hi)
theorem hds_refs (m : List (Nat × M)) (all : List Hdr) : V.refs.go m [hdsV all] = true := by
  rw [V.refs.go, V.refs.go]
  have : ∀ l : List Hdr, V.refs.go [] (l.map hdV) = true := fun l => by
    induction l with
    | nil => rfl
    | cons x r ih => rw [List.map_cons, V.refs.go, ih]; show (V.refs.go [] (hdrC x) && true) = true; rw [hdrC_refs]; rfl
  show (V.refs m (.s none (all.map hdV)) && true) = true
  rfl
set_option maxHeartbeats 4000000 in
theorem cmp_ (all : List Hdr) (h : ∀ x ∈ all, x.ok) (hl : all.length < 100000000) : CmpC (nums all) all.length [hdsV all] := by
  intro x y hx hy
  have kx := getD_ok h hx
  have ky := getD_ok h hy
  have c1 := Compare_ (nums all x) (nums all y)
  have ld1 : ∀ {ti : TI}, ti.d.agg = false → ti.part ((hdrC (all.getD x default)).drop 32) 0 = some (uK (all.getD x default).number) := num_q kx
  have ld2 : ∀ {ti : TI}, ti.d.agg = false → ti.part ((hdrC (all.getD y default)).drop 32) 0 = some (uK (all.getD y default).number) := num_q ky
  have hx1 := hdrC_len kx
  have hx2 := hdrC_len ky
  have hrf := hdrC_refs
  have hma : (all.map hdV).length = all.length := List.length_map _
  unfold nums at *
  generalize cmpZ (all.getD x default).number (all.getD y default).number = r at *
  refine LM.enter tt Try.func48 rfl rfl rfl (by kernel_rfl) rfl rfl rfl (fun o mo h => by rw [h.2]; rfl) fun F _ => ?_
  clear h
  exact wk trueW trueW trueW
end Cm
end Lf
set_option maxRecDepth 100000
namespace Ch
structure Sg (H K : Type) where
  num : H → Nat
  par : H → K
  sum : H → K
section
variable {H K : Type} [Inhabited H] (s : Sg H K)
def Fol (a b : H) : Prop := s.num b ≠ 0 ∧ s.num b - 1 = s.num a ∧ s.par b = s.sum a
structure Mk (all : List H) (M : Nat → Option Nat) : Prop where
  zero : (M 0).isSome = true
  lt : ∀ i, (M i).isSome = true → i < all.length
  beh : ∀ i p, i ≠ 0 → M i = some p → (M p).isSome = true ∧ Fol s (all.getD p default) (all.getD i default) ∧ ∀ j, (M j).isSome = true → Fol s (all.getD j default) (all.getD i default) → p ≤ j
  all : ∀ i j, i ≠ 0 → i < all.length → (M j).isSome = true → Fol s (all.getD j default) (all.getD i default) → (M i).isSome = true
variable {s}
omit [Inhabited H] in
theorem Fol.num {a b : H} (h : Fol s a b) : s.num b = s.num a + 1 := by
  obtain ⟨h1, h2, _⟩ := h
  omega
theorem isSome_ex {o : Option Nat} (h : o.isSome = true) : ∃ p, o = some p := Option.isSome_iff_exists.1 h
theorem Mk.sub {all : List H} {M M' : Nat → Option Nat} (h : Mk s all M) (h' : Mk s all M') : ∀ (n i : Nat), s.num (all.getD i default) ≤ n → (M i).isSome = true → (M' i).isSome = true := by
  intro n
  induction n with
  | zero =>
    intro i hi hs
    by_cases h0 : i = 0
    · subst h0; exact h'.zero
    · obtain ⟨p, hp⟩ := isSome_ex hs
      have := (h.beh i p h0 hp).2.1.num
      omega
  | succ n ih =>
    intro i hi hs
    by_cases h0 : i = 0
    · subst h0; exact h'.zero
    · obtain ⟨p, hp⟩ := isSome_ex hs
      obtain ⟨h1, h2, _⟩ := h.beh i p h0 hp
      have := h2.num
      exact h'.all i p h0 (h.lt i hs) (ih p (by omega) h1) h2
theorem Mk.uniq {all : List H} {M M' : Nat → Option Nat} (h : Mk s all M) (h' : Mk s all M') {i : Nat} (h0 : i ≠ 0) : M i = M' i := by
  have key : ∀ {M M' : Nat → Option Nat}, Mk s all M → Mk s all M' → ∀ {p q}, M i = some p → M' i = some q → p ≤ q := fun {M M'} h h' {p q} hp hq => by
    obtain ⟨a1, a2, a3⟩ := h.beh i p h0 hp
    obtain ⟨b1, b2, b3⟩ := h'.beh i q h0 hq
    exact a3 q (h'.sub h _ q (Nat.le_refl _) b1) b2
  cases hM : M i with
  | none =>
    cases hM' : M' i with
    | none => rfl
    | some q =>
      have := h'.sub h _ i (Nat.le_refl _) (by rw [hM']; rfl)
      rw [hM] at this; cases this
  | some p =>
    have h1 := h.sub h' _ i (Nat.le_refl _) (by rw [hM]; rfl)
    obtain ⟨q, hq⟩ := isSome_ex h1
    rw [hq]
    exact congrArg some (Nat.le_antisymm (key h h' hM hq) (key h' h hq hM))
inductive Pth (all : List H) (M : Nat → Option Nat) : Nat → List H → Prop
  | z : Pth all M 0 [all.getD 0 default]
  | s {i p : Nat} {l : List H} (h0 : i ≠ 0) (hp : M i = some p) (h : Pth all M p l) : Pth all M i (l ++ [all.getD i default])
theorem Pth.uniq {all : List H} {M : Nat → Option Nat} : ∀ {i : Nat} {l l' : List H}, Pth all M i l → Pth all M i l' → l = l' := by
  intro i l l' h
  induction h generalizing l' with
  | z => intro h'; cases h' with
    | z => rfl
    | s h0 _ _ => exact absurd rfl h0
  | s h0 hp _ ih => intro h'; cases h' with
    | z => exact absurd rfl h0
    | s _ hp' h' =>
      rw [hp] at hp'
      cases hp'
      rw [ih h']
theorem Mk.pth {all : List H} {M : Nat → Option Nat} (h : Mk s all M) : ∀ (n i : Nat), s.num (all.getD i default) ≤ n → (M i).isSome = true → ∃ l, Pth all M i l := by
  intro n
  induction n with
  | zero =>
    intro i hi hs
    by_cases h0 : i = 0
    · subst h0; exact ⟨_, .z⟩
    · obtain ⟨p, hp⟩ := isSome_ex hs
      have := (h.beh i p h0 hp).2.1.num
      omega
  | succ n ih =>
    intro i hi hs
    by_cases h0 : i = 0
    · subst h0; exact ⟨_, .z⟩
    · obtain ⟨p, hp⟩ := isSome_ex hs
      obtain ⟨h1, h2, _⟩ := h.beh i p h0 hp
      have := h2.num
      obtain ⟨l, hl⟩ := ih p (by omega) h1
      exact ⟨_, .s h0 hp hl⟩
theorem Pth.ne {all : List H} {M : Nat → Option Nat} {i : Nat} {l : List H} (h : Pth all M i l) : l ≠ [] := by
  cases h <;> simp
theorem Pth.last {all : List H} {M : Nat → Option Nat} {i : Nat} {l : List H} (h : Pth all M i l) : l.getD (l.length - 1) default = all.getD i default := by
  cases h with
  | z => rfl
  | s h0 hp h => simp [List.getD_eq_getElem?_getD]
theorem Pth.first {all : List H} {M : Nat → Option Nat} {i : Nat} {l : List H} (h : Pth all M i l) : l.getD 0 default = all.getD 0 default := by
  induction h with
  | z => rfl
  | s h0 hp h ih =>
    have := List.length_pos_iff.2 h.ne
    rw [← ih, List.getD_eq_getElem?_getD, List.getElem?_append_left this, ← List.getD_eq_getElem?_getD]
theorem Pth.len {all : List H} {M : Nat → Option Nat} (hM : Mk s all M) {i : Nat} {l : List H} (h : Pth all M i l) : s.num (all.getD i default) + 1 = s.num (all.getD 0 default) + l.length := by
  induction h with
  | z => rfl
  | s h0 hp h ih =>
    have := (hM.beh _ _ h0 hp).2.1.num
    rw [List.length_append]
    simp only [List.length_cons, List.length_nil]
    omega
theorem Mk.above {all : List H} {M : Nat → Option Nat} (hM : Mk s all M) {i : Nat} (hs : (M i).isSome = true) (h0 : i ≠ 0) : s.num (all.getD 0 default) < s.num (all.getD i default) := by
  obtain ⟨l, hl⟩ := hM.pth _ i (Nat.le_refl _) hs
  have h1 := hl.len hM
  cases hl with
  | z => exact absurd rfl h0
  | s _ _ h =>
    have := List.length_pos_iff.2 h.ne
    rw [List.length_append] at h1
    simp only [List.length_cons, List.length_nil] at h1
    omega
theorem Mk.into {all all' : List H} {M M' : Nat → Option Nat} (h : Mk s all M) (h' : Mk s all' M') (hz : all.getD 0 default = all'.getD 0 default) (hm : ∀ i, 1 ≤ i → i < all.length → ∃ j, 1 ≤ j ∧ j < all'.length ∧ all'.getD j default = all.getD i default) :
    ∀ (n i : Nat), s.num (all.getD i default) ≤ n → (M i).isSome = true → ∃ j, (M' j).isSome = true ∧ all'.getD j default = all.getD i default ∧ (i = 0 ↔ j = 0) := by
  intro n
  induction n with
  | zero =>
    intro i hi hs
    by_cases h0 : i = 0
    · subst h0; exact ⟨0, h'.zero, hz.symm, Iff.rfl⟩
    · obtain ⟨p, hp⟩ := isSome_ex hs
      have := (h.beh i p h0 hp).2.1.num
      omega
  | succ n ih =>
    intro i hi hs
    by_cases h0 : i = 0
    · subst h0; exact ⟨0, h'.zero, hz.symm, Iff.rfl⟩
    · obtain ⟨p, hp⟩ := isSome_ex hs
      obtain ⟨h1, h2, _⟩ := h.beh i p h0 hp
      have := h2.num
      obtain ⟨q, q1, q2, _⟩ := ih p (by omega) h1
      obtain ⟨j, j1, j2, j3⟩ := hm i (by omega) (h.lt i hs)
      exact ⟨j, h'.all j q (by omega) j2 q1 (by rw [q2, j3]; exact h2), j3, by omega⟩
end
end Ch
set_option maxRecDepth 100000
namespace Ch
section
variable {H K : Type} [Inhabited H] {s : Sg H K} {lt : K → K → Prop}
structure Best (s : Sg H K) (lt : K → K → Prop) (all : List H) (M : Nat → Option Nat) (b : Nat) : Prop where
  is : (M b).isSome = true
  top : ∀ i, (M i).isSome = true → s.num (all.getD i default) < s.num (all.getD b default) ∨ (s.num (all.getD i default) = s.num (all.getD b default) ∧ (lt (s.sum (all.getD b default)) (s.sum (all.getD i default)) ∨ (s.sum (all.getD b default) = s.sum (all.getD i default) ∧ b ≤ i)))
theorem Best.uniq (hlt : ∀ a b, lt a b → ¬ lt b a) {all : List H} {M : Nat → Option Nat} {b b' : Nat} (h : Best s lt all M b) (h' : Best s lt all M b') : b = b' := by
  rcases h.top b' h'.is with h1 | ⟨h1, h2⟩
  · rcases h'.top b h.is with h3 | ⟨h3, _⟩ <;> omega
  · rcases h'.top b h.is with h3 | ⟨h3, h4⟩
    · omega
    · rcases h2 with h2 | ⟨h2, h2'⟩
      · rcases h4 with h4 | ⟨h4, _⟩
        · exact absurd h4 (hlt _ _ h2)
        · rw [h4] at h2; exact absurd h2 (hlt _ _ h2)
      · rcases h4 with h4 | ⟨_, h4'⟩
        · rw [h2] at h4; exact absurd h4 (hlt _ _ h4)
        · omega
theorem Pth.is {all : List H} {M : Nat → Option Nat} (hM : Mk s all M) {i : Nat} {l : List H} (h : Pth all M i l) : (M i).isSome = true := by
  cases h with
  | z => exact hM.zero
  | s _ hp _ => rw [hp]; rfl
def Cl (s : Sg H K) (all : List H) : Prop := ∃ i j, i < all.length ∧ j < all.length ∧ all.getD i default ≠ all.getD j default ∧ s.sum (all.getD i default) = s.sum (all.getD j default)
theorem Cl.of {all all' : List H} (hm : ∀ i, i < all'.length → ∃ j, j < all.length ∧ all.getD j default = all'.getD i default) {i j : Nat} (hi : i < all.length) (hj : j < all'.length) (hne : all.getD i default ≠ all'.getD j default) (hs : s.sum (all.getD i default) = s.sum (all'.getD j default)) : Cl s all := by
  obtain ⟨k, h1, h2⟩ := hm j hj
  exact ⟨i, k, hi, h1, by rw [h2]; exact hne, by rw [h2]; exact hs⟩
theorem Pth.same {all all' : List H} {M M' : Nat → Option Nat} (hM : Mk s all M) (hM' : Mk s all' M') (hz : all.getD 0 default = all'.getD 0 default) (hm : ∀ i, i < all'.length → ∃ j, j < all.length ∧ all.getD j default = all'.getD i default) {i : Nat} {l : List H} (h : Pth all M i l) :
    ∀ {i' : Nat} {l' : List H}, Pth all' M' i' l' → all.getD i default = all'.getD i' default → l = l' ∨ Cl s all := by
  induction h with
  | z =>
    intro i' l' h' he
    cases h' with
    | z => left; rw [hz]
    | s h0 hp h' =>
      have := hM'.above (i := i') (by rw [hp]; rfl) h0
      rw [← he, hz] at this
      omega
  | @s i p l h0 hp h ih =>
    intro i' l' h' he
    cases h' with
    | z =>
      have := hM.above (i := i) (by rw [hp]; rfl) h0
      rw [he, ← hz] at this
      omega
    | @s _ p' l' h0' hp' h' =>
      obtain ⟨a1, a2, _⟩ := hM.beh i p h0 hp
      obtain ⟨b1, b2, _⟩ := hM'.beh i' p' h0' hp'
      have hs : s.sum (all.getD p default) = s.sum (all'.getD p' default) := by rw [← a2.2.2, ← b2.2.2, he]
      by_cases e : all.getD p default = all'.getD p' default
      · rcases ih h' e with h | h
        · left; rw [h, he]
        · exact .inr h
      · exact .inr (Cl.of hm (hM.lt p a1) (hM'.lt p' b1) e hs)
theorem order (hlt : ∀ a b, lt a b → ¬ lt b a) {all all' : List H} {M M' : Nat → Option Nat} (hM : Mk s all M) (hM' : Mk s all' M') {b b' : Nat} (hb : Best s lt all M b) (hb' : Best s lt all' M' b') {l l' : List H} (hl : Pth all M b l) (hl' : Pth all' M' b' l')
    (hz : all.getD 0 default = all'.getD 0 default) (h1 : ∀ i, 1 ≤ i → i < all.length → ∃ j, 1 ≤ j ∧ j < all'.length ∧ all'.getD j default = all.getD i default) (h2 : ∀ i, 1 ≤ i → i < all'.length → ∃ j, 1 ≤ j ∧ j < all.length ∧ all.getD j default = all'.getD i default) : l = l' ∨ Cl s all := by
  have hm : ∀ i, i < all'.length → ∃ j, j < all.length ∧ all.getD j default = all'.getD i default := fun i hi => by
    by_cases h0 : i = 0
    · subst h0; exact ⟨0, hM.lt 0 hM.zero, hz⟩
    · obtain ⟨j, _, h3, h4⟩ := h2 i (by omega) hi
      exact ⟨j, h3, h4⟩
  obtain ⟨c, c1, c2, _⟩ := hM.into hM' hz h1 _ b (Nat.le_refl _) hb.is
  obtain ⟨c', c1', c2', _⟩ := hM'.into hM hz.symm h2 _ b' (Nat.le_refl _) hb'.is
  have k1 := hb'.top c c1
  have k2 := hb.top c' c1'
  rw [c2] at k1
  rw [c2'] at k2
  have hs : s.sum (all.getD b default) = s.sum (all'.getD b' default) := by
    rcases k1 with k1 | ⟨k1, k3⟩
    · rcases k2 with k2 | ⟨k2, _⟩ <;> omega
    · rcases k2 with k2 | ⟨k2, k4⟩
      · omega
      · rcases k3 with k3 | ⟨k3, _⟩
        · rcases k4 with k4 | ⟨k4, _⟩
          · exact absurd k4 (hlt _ _ k3)
          · exact k4
        · exact k3.symm
  by_cases e : all.getD b default = all'.getD b' default
  · exact hl.same hM hM' hz hm hl' e
  · exact .inr (Cl.of hm (hM.lt b hb.is) (hM'.lt b' hb'.is) e hs)
end
end Ch
set_option maxRecDepth 100000
namespace Ch
section
variable {H K : Type} [Inhabited H] [DecidableEq K] (s : Sg H K) (all : List H)
structure St (K : Type) where
  R : Nat → Option Nat
  F : K → Nat → Option Nat
def St.start : St K := ⟨fun i => if i = 0 then some 0 else none, fun k n => if k = s.sum (all.getD 0 default) ∧ n = s.num (all.getD 0 default) then some 0 else none⟩
def St.step (st : St K) (i : Nat) : St K :=
  if s.num (all.getD i default) = 0 then st else
  match st.F (s.par (all.getD i default)) (s.num (all.getD i default) - 1) with
  | none => st
  | some p => ⟨fun j => if j = i then some p else st.R j,
      match st.F (s.sum (all.getD i default)) (s.num (all.getD i default)) with
      | none => fun k n => if k = s.sum (all.getD i default) ∧ n = s.num (all.getD i default) then some i else st.F k n
      | some q => if i < q then fun k n => if k = s.sum (all.getD i default) ∧ n = s.num (all.getD i default) then some i else st.F k n else st.F⟩
structure Inv (pre : List Nat) (st : St K) : Prop where
  zero : (st.R 0).isSome = true
  inn : ∀ i, (st.R i).isSome = true → i = 0 ∨ i ∈ pre
  key : ∀ k n q, st.F k n = some q → (st.R q).isSome = true ∧ s.sum (all.getD q default) = k ∧ s.num (all.getD q default) = n ∧ ∀ j, (st.R j).isSome = true → s.sum (all.getD j default) = k → s.num (all.getD j default) = n → q ≤ j
  has : ∀ j, (st.R j).isSome = true → (st.F (s.sum (all.getD j default)) (s.num (all.getD j default))).isSome = true
  beh : ∀ i p, i ≠ 0 → st.R i = some p → (st.R p).isSome = true ∧ Fol s (all.getD p default) (all.getD i default) ∧ ∀ j, (st.R j).isSome = true → Fol s (all.getD j default) (all.getD i default) → p ≤ j
  done : ∀ i j, i ∈ pre → (st.R j).isSome = true → Fol s (all.getD j default) (all.getD i default) → (st.R i).isSome = true
theorem Inv.start : Inv s all [] (St.start s all) := by
  have h1 : ∀ i, ((St.start s all).R i).isSome = true → i = 0 := fun i h => by
    by_cases h0 : i = 0
    · exact h0
    · simp only [St.start, if_neg h0] at h; cases h
  refine ⟨rfl, fun i h => .inl (h1 i h), fun k n q h => ?_, fun j h => ?_, fun i p h0 h => ?_, fun i j hi => by cases hi⟩
  · simp only [St.start] at h
    split at h
    · rename_i e
      cases h
      exact ⟨rfl, e.1.symm, e.2.symm, fun j _ _ _ => Nat.zero_le _⟩
    · cases h
  · obtain rfl := h1 j h
    simp [St.start]
  · simp only [St.start, if_neg h0] at h; cases h
variable {s} {all}
theorem Inv.step {pre : List Nat} {st : St K} (h : Inv s all pre st) {i : Nat} (h0 : i ≠ 0) (hs : ∀ j ∈ pre, s.num (all.getD j default) ≤ s.num (all.getD i default)) (hni : i ∉ pre) : Inv s all (pre ++ [i]) (st.step s all i) := by
  have hRi : st.R i = none := by
    cases hR : st.R i with
    | none => rfl
    | some p => exact absurd (h.inn i (by rw [hR]; rfl)) fun e => e.elim h0 hni
  have keep : (∀ j, (st.R j).isSome = true → ¬ Fol s (all.getD j default) (all.getD i default)) → Inv s all (pre ++ [i]) st := fun hn => by
    refine ⟨h.zero, fun j hj => ?_, h.key, h.has, h.beh, fun i' j hi hj hf => ?_⟩
    · rcases h.inn j hj with h | h
      · exact .inl h
      · exact .inr (List.mem_append_left _ h)
    · rcases List.mem_append.1 hi with hi | hi
      · exact h.done i' j hi hj hf
      · rw [List.mem_singleton] at hi
        subst hi
        exact absurd hf (hn j hj)
  unfold St.step
  by_cases hz : s.num (all.getD i default) = 0
  · rw [if_pos hz]
    exact keep fun j _ hf => hf.1 hz
  · rw [if_neg hz]
    cases hF : st.F (s.par (all.getD i default)) (s.num (all.getD i default) - 1) with
    | none =>
      refine keep fun j hj hf => ?_
      have := h.has j hj
      rw [← hf.2.2, ← hf.2.1, hF] at this
      cases this
    | some p =>
      obtain ⟨p1, p2, p3, p4⟩ := h.key _ _ _ hF
      have hfp : Fol s (all.getD p default) (all.getD i default) := ⟨hz, p3.symm, p2.symm⟩
      have hpi : p ≠ i := fun e => by rw [e, hRi] at p1; cases p1
      -- what is reached behind it
      have hR : ∀ j, ((if j = i then some p else st.R j).isSome = true) ↔ j = i ∨ (st.R j).isSome = true := fun j => by
        by_cases e : j = i
        · rw [if_pos e]; exact ⟨fun _ => .inl e, fun _ => rfl⟩
        · rw [if_neg e]; exact ⟨.inr, fun h => h.resolve_left e⟩
      have hno : ∀ j, j ∈ pre → ¬ Fol s (all.getD i default) (all.getD j default) := fun j hj hf => by
        have := hf.num
        have := hs j hj
        omega
      have hno0 : ∀ j, (st.R j).isSome = true → j ≠ 0 → ¬ Fol s (all.getD i default) (all.getD j default) := fun j hj hj0 => hno j ((h.inn j hj).resolve_left hj0)
      have hii : ¬ Fol s (all.getD i default) (all.getD i default) := fun hf => by have := hf.num; omega
      -- the places by sums and numbers
      have main : ∀ F' : K → Nat → Option Nat, (∀ k n q, F' k n = some q → (q = i ∨ (st.R q).isSome = true) ∧ s.sum (all.getD q default) = k ∧ s.num (all.getD q default) = n ∧ ∀ j, (j = i ∨ (st.R j).isSome = true) → s.sum (all.getD j default) = k → s.num (all.getD j default) = n → q ≤ j) →
          (∀ j, (j = i ∨ (st.R j).isSome = true) → (F' (s.sum (all.getD j default)) (s.num (all.getD j default))).isSome = true) → Inv s all (pre ++ [i]) ⟨fun j => if j = i then some p else st.R j, F'⟩ := fun F' hk hh => by
        refine ⟨(hR 0).2 (.inr h.zero), fun j hj => ?_, fun k n q hq => ?_, fun j hj => hh j ((hR j).1 hj), fun i' p' hi' hp' => ?_, fun i' j hi' hj hf => ?_⟩
        · rcases (hR j).1 hj with rfl | hj
          · exact .inr (List.mem_append_right _ List.mem_cons_self)
          · rcases h.inn j hj with h | h
            · exact .inl h
            · exact .inr (List.mem_append_left _ h)
        · obtain ⟨a1, a2, a3, a4⟩ := hk k n q hq
          exact ⟨(hR q).2 a1, a2, a3, fun j hj => a4 j ((hR j).1 hj)⟩
        · by_cases e : i' = i
          · subst e
            have hp2 : (if i' = i' then some p else st.R i') = some p' := hp'
            rw [if_pos rfl] at hp2
            cases hp2
            refine ⟨(hR p).2 (.inr p1), hfp, fun j hj hf => ?_⟩
            rcases (hR j).1 hj with rfl | hj
            · exact absurd hf hii
            · exact p4 j hj hf.2.2.symm hf.2.1.symm
          · have hp2 : (if i' = i then some p else st.R i') = some p' := hp'
            rw [if_neg e] at hp2
            have hs2 : (st.R i').isSome = true := by rw [hp2]; rfl
            obtain ⟨b1, b2, b3⟩ := h.beh i' p' hi' hp2
            refine ⟨(hR p').2 (.inr b1), b2, fun j hj hf => ?_⟩
            rcases (hR j).1 hj with e1 | hj
            · rw [e1] at hf
              exact absurd hf (hno0 i' hs2 hi')
            · exact b3 j hj hf
        · rcases List.mem_append.1 hi' with hi2 | hi2
          · rcases (hR j).1 hj with rfl | hj
            · exact absurd hf (hno i' hi2)
            · exact (hR i').2 (.inr (h.done i' j hi2 hj hf))
          · rw [List.mem_singleton] at hi2
            exact (hR i').2 (.inl hi2)
      cases hO : st.F (s.sum (all.getD i default)) (s.num (all.getD i default)) with
      | none =>
        refine main (fun k n => if k = s.sum (all.getD i default) ∧ n = s.num (all.getD i default) then some i else st.F k n) (fun k n q hq => ?_) (fun j hj => ?_)
        · by_cases e : k = s.sum (all.getD i default) ∧ n = s.num (all.getD i default)
          · rw [if_pos e] at hq
            cases hq
            refine ⟨.inl rfl, e.1.symm, e.2.symm, fun j hj h1 h2 => ?_⟩
            rcases hj with rfl | hj
            · exact Nat.le_refl _
            · have := h.has j hj
              rw [h1, h2, e.1, e.2, hO] at this
              cases this
          · rw [if_neg e] at hq
            obtain ⟨a1, a2, a3, a4⟩ := h.key k n q hq
            refine ⟨.inr a1, a2, a3, fun j hj h1 h2 => ?_⟩
            rcases hj with rfl | hj
            · exact absurd ⟨h1.symm, h2.symm⟩ e
            · exact a4 j hj h1 h2
        · by_cases e : s.sum (all.getD j default) = s.sum (all.getD i default) ∧ s.num (all.getD j default) = s.num (all.getD i default)
          · rw [if_pos e]; rfl
          · rw [if_neg e]
            rcases hj with rfl | hj
            · exact absurd ⟨rfl, rfl⟩ e
            · exact h.has j hj
      | some q =>
        obtain ⟨q1, q2, q3, q4⟩ := h.key _ _ _ hO
        by_cases hiq : i < q
        · show Inv s all (pre ++ [i]) ⟨_, if i < q then _ else st.F⟩
          rw [if_pos hiq]
          refine main (fun k n => if k = s.sum (all.getD i default) ∧ n = s.num (all.getD i default) then some i else st.F k n) (fun k n q' hq => ?_) (fun j hj => ?_)
          · by_cases e : k = s.sum (all.getD i default) ∧ n = s.num (all.getD i default)
            · rw [if_pos e] at hq
              cases hq
              refine ⟨.inl rfl, e.1.symm, e.2.symm, fun j hj h1 h2 => ?_⟩
              rcases hj with rfl | hj
              · exact Nat.le_refl _
              · exact Nat.le_trans (Nat.le_of_lt hiq) (q4 j hj (h1.trans e.1) (h2.trans e.2))
            · rw [if_neg e] at hq
              obtain ⟨a1, a2, a3, a4⟩ := h.key k n q' hq
              refine ⟨.inr a1, a2, a3, fun j hj h1 h2 => ?_⟩
              rcases hj with rfl | hj
              · exact absurd ⟨h1.symm, h2.symm⟩ e
              · exact a4 j hj h1 h2
          · by_cases e : s.sum (all.getD j default) = s.sum (all.getD i default) ∧ s.num (all.getD j default) = s.num (all.getD i default)
            · rw [if_pos e]; rfl
            · rw [if_neg e]
              rcases hj with rfl | hj
              · exact absurd ⟨rfl, rfl⟩ e
              · exact h.has j hj
        have hqi : q ≤ i := by omega
        show Inv s all (pre ++ [i]) ⟨_, if i < q then _ else st.F⟩
        rw [if_neg (by omega)]
        refine main st.F (fun k n q' hq => ?_) (fun j hj => ?_)
        · obtain ⟨a1, a2, a3, a4⟩ := h.key k n q' hq
          refine ⟨.inr a1, a2, a3, fun j hj h1 h2 => ?_⟩
          rcases hj with rfl | hj
          · rw [← h1, ← h2, hO] at hq
            cases hq
            exact hqi
          · exact a4 j hj h1 h2
        · rcases hj with rfl | hj
          · rw [hO]; rfl
          · exact h.has j hj
def Ord (s : Sg H K) (all : List H) (a b : Nat) : Prop := s.num (all.getD a default) ≤ s.num (all.getD b default) ∧ a ≠ b
theorem Inv.run : ∀ (o pre : List Nat) (st : St K), Inv s all pre st → (pre ++ o).Pairwise (Ord s all) → (∀ i ∈ o, i ≠ 0) → Inv s all (pre ++ o) (o.foldl (St.step s all) st)
  | [], pre, st, h, _, _ => by rw [List.append_nil]; exact h
  | i :: o, pre, st, h, hp, h0 => by
    rw [show pre ++ i :: o = (pre ++ [i]) ++ o by simp] at hp ⊢
    rw [List.foldl_cons]
    have h1 := (List.pairwise_append.1 hp).1
    have h2 := (List.pairwise_append.1 h1).2.2
    exact Inv.run o (pre ++ [i]) _ (h.step (h0 i List.mem_cons_self) (fun j hj => (h2 j hj i List.mem_cons_self).1) fun hi => (h2 i hi i List.mem_cons_self).2 rfl) hp fun k hk => h0 k (List.mem_cons_of_mem _ hk)
theorem marks_mk {o : List Nat} (hn : 0 < all.length) (ho : ∀ i, i ∈ o ↔ 1 ≤ i ∧ i < all.length) (hp : o.Pairwise (Ord s all)) : Mk s all (o.foldl (St.step s all) (St.start s all)).R := by
  have h := Inv.run o [] _ (Inv.start s all) hp fun i hi => by have := (ho i).1 hi; omega
  rw [List.nil_append] at h
  refine ⟨h.zero, fun i hi => ?_, h.beh, fun i j h0 hi hj hf => h.done i j ((ho i).2 ⟨by omega, hi⟩) hj hf⟩
  rcases h.inn i hi with rfl | hi
  · exact hn
  · exact ((ho i).1 hi).2
end
end Ch
open Go.RowKit Rg
set_option maxRecDepth 100000
namespace Lf
open Pk
namespace Cm
open Sq
abbrev LinkT := List UInt8 × Nat
def lkL (p : LinkT) : List Value := p.1.map (fun b => Value.int .u8 (b.toNat : Int)) ++ [Value.int .u64 (p.2 : Int)]
def lkC (p : LinkT) : List V := p.1.map bK ++ [uK p.2]
abbrev lkV (p : LinkT) : V := .a (lkC p)
def lkK (p : LinkT) : Value := .agg (lkL p).toArray
structure LinkOk (p : LinkT) : Prop where
  h : p.1.length = 32
  s : p.2 < 18446744073709551616
theorem lkC_k (p : LinkT) : lkC p = (lkL p).map .k := by
  unfold lkC lkL
  rw [List.map_append, List.map_map]
  rfl
theorem lk_rep {w : World} {g : Gh} {p : LinkT} {v : Value} (h : Rep w g (lkV p) v) : v = lkK p := by
  rw [lkV, lkC_k] at h
  exact rep_plain h
theorem lkK_inj {p q : LinkT} (h : lkK p = lkK q) : p = q := by
  unfold lkK lkL at h
  have h1 := congrArg Array.toList (Value.agg.inj h)
  simp only [List.toList_toArray] at h1
  have hl := congrArg List.length h1
  simp only [List.length_append, List.length_map, List.length_singleton] at hl
  obtain ⟨h2, h3⟩ := List.append_inj h1 (by simp only [List.length_map]; omega)
  have h3 := (Value.int.inj (List.cons.inj h3).1).2
  exact Prod.ext (hashL_inj h2) (Int.ofNat.inj h3)
theorem wideL : (match Try.prog.underlying 99 with | some (.array _ _) | some (.struct _) => true | _ => false) = true := by kernel_rfl
theorem lawL : Maps.Keyed Try.prog 99 := Maps.Keyed.of_law (deep_law_laid St.laidV (m := 4) (by omega) (of_decide_eq_true (by kernel_rfl)) (by kernel_rfl) wideL)
theorem mapTyL : MapTy Try.prog 100 99 (.int .i64 0) := ⟨⟨3, by kernel_rfl, fun w => by kernel_rfl⟩, lawL⟩
theorem fsL_ex : ∃ fs : Array Field, Try.prog.underlying 99 = some (.struct fs) ∧ fs.toList.map (fun f => (f.type, f.offset)) = [(23, 0), (24, 32)] ∧ fs.all (·.name != "_") = true :=
  ⟨(match Try.prog.underlying 99 with | some (.struct fs) => fs | _ => #[]), by kernel_rfl, by kernel_rfl, by kernel_rfl⟩
theorem u_u64 : Try.prog.underlying 24 = some (.int .u64) := by kernel_rfl
theorem c_u64 : Try.prog.cellsOf 24 = 1 := by kernel_rfl
theorem c_link : Try.prog.cellsOf 99 = 33 := by kernel_rfl
theorem key_link : Try.prog.keyType 99 = true := by kernel_rfl
theorem kl_struct {P : Program} {d t : Nat} {fs : Array Field} {cs : List Value} (h : P.underlying t = some (.struct fs)) : P.keyLits (d + 1) t cs = if cs.length = P.cellsOf t ∧ fs.all (·.name != "_") = true then (fs.toList.mapM fun f => P.keyLits d f.type ((cs.drop f.offset).take (P.cellsOf f.type))).map List.flatten else none := by
  simp only [Program.keyLits, h]
theorem lits_u64 (d s : Nat) (h : s < 18446744073709551616) : Try.prog.keyLits (d + 1) 24 [.int .u64 (s : Int)] = some [.int .u64 (s : Int)] := by
  simp only [Program.keyLits, u_u64]
  rw [if_pos]
  simp [Lit.wf, IntKind.min, IntKind.max, IntKind.bits, IntKind.signed]
  omega
theorem lits_link (d : Nat) (p : LinkT) (h : LinkOk p) : ∃ r, Try.prog.keyLits (d + 1 + 1 + 1) 99 (lkL p) = some r := by
  obtain ⟨fsL, fsL_at, fsL_map, fsL_all⟩ := fsL_ex
  have hh := h.h
  rw [kl_struct fsL_at, if_pos ⟨by rw [c_link]; simp [lkL, hh], by exact fsL_all⟩]
  obtain ⟨r, hr⟩ := St.mapM_some (l := fsL.toList) (f := fun f => Try.prog.keyLits (d + 1 + 1) f.type (((lkL p).drop f.offset).take (Try.prog.cellsOf f.type))) fun f hf => by
    have h1 : (f.type, f.offset) ∈ [(23, 0), (24, 32)] := by rw [← fsL_map]; exact List.mem_map_of_mem hf
    simp only [List.mem_cons, Prod.mk.injEq, List.not_mem_nil, or_false] at h1
    rcases h1 with ⟨e1, e2⟩ | ⟨e1, e2⟩
    · rw [e1, e2, St.c_hash]
      have e : ((lkL p).drop 0).take 32 = p.1.map fun b => Value.int .u8 (b.toNat : Int) := by
        unfold lkL
        rw [List.drop_zero, List.take_left' (by simp [hh])]
      rw [e]
      exact St.lits_hash d _ hh
    · rw [e1, e2, c_u64]
      have e : ((lkL p).drop 32).take 1 = [.int .u64 (p.2 : Int)] := by
        unfold lkL
        rw [List.drop_left' (by simp [hh])]
        rfl
      rw [e]
      exact ⟨_, lits_u64 _ _ h.s⟩
  exact ⟨_, by rw [hr]; rfl⟩
theorem key_lkK (p : LinkT) (h : LinkOk p) : ∃ l, keyOf Try.prog 99 (lkK p) = some l := by
  obtain ⟨fsL, fsL_at, _, _⟩ := fsL_ex
  obtain ⟨n, hn⟩ := St.size_ge
  obtain ⟨r, hr⟩ := lits_link n p h
  have hh := h.h
  have hc : (lkK p).cells.toList = lkL p := by simp [lkK, Value.cells]
  have hf : (lkK p).formed Try.prog 99 = true := by
    simp [lkK, Value.formed, fsL_at, c_link, lkL, hh]
  unfold keyOf
  rw [fsL_at]
  simp only
  rw [if_pos (by rw [key_link, hf]; rfl), hn, hc, hr]
  exact ⟨_, rfl⟩
theorem keyL (p : LinkT) (h : LinkOk p) : KeyV Try.prog 99 (lkV p) (lkK p) := ⟨key_lkK p h, fun _ _ _ hr => lk_rep hr⟩
theorem mapTyM : MapTy Try.prog 71 3 (.agg #[.int .i64 0, .int .i64 0]) := ⟨⟨74, by kernel_rfl, fun w => by kernel_rfl⟩, Maps.int_keyed (q := .i64) (by kernel_rfl)⟩
theorem key_I (n : Nat) (h : n < 1000000000) : ∃ l, keyOf Try.prog 3 (.int .i64 ((n : Nat) : Int)) = some l := ⟨_, Maps.keyOf_int_mk (q := .i64) (by kernel_rfl) (by
  have h1 : IntKind.i64.min = -9223372036854775808 := rfl
  have h2 : IntKind.i64.max = 9223372036854775807 := rfl
  simp only [Lit.wf, h1, h2, Bool.and_eq_true, decide_eq_true_eq]
  omega)⟩
theorem keyI (n : Nat) (h : n < 1000000000) : KeyV Try.prog 3 (iK n) (.int .i64 ((n : Nat) : Int)) := ⟨key_I n h, fun w g v hr => by cases hr; rfl⟩
-- the two maps
abbrev RT := List (Nat × Nat)
abbrev ET := List (LinkT × Nat)
def rM (R : RT) : List (Value × V) := R.map fun (p : Nat × Nat) => (Value.int .i64 ((p.1 : Nat) : Int), .a [iK p.1, iK p.2])
def eM (E : ET) : List (Value × V) := E.map fun (p : LinkT × Nat) => (lkK p.1, iK p.2)
theorem rM_snoc (R : RT) (i p : Nat) : rM R ++ [(Value.int .i64 ((i : Nat) : Int), .a [iK i, iK p])] = rM (R ++ [(i, p)]) := by
  unfold rM
  rw [List.map_append]
  rfl
theorem eM_snoc (E : ET) (k : LinkT) (i : Nat) : eM E ++ [(lkK k, iK i)] = eM (E ++ [(k, i)]) := by
  unfold eM
  rw [List.map_append]
  rfl
theorem eM_set (E : ET) (s : Nat) (k : LinkT) (i : Nat) : (eM E).set s (lkK k, iK i) = eM (E.set s (k, i)) := by
  unfold eM
  rw [List.map_set]
theorem keysR {R : RT} (h : ∀ x ∈ R, x.1 < 1000000000) : KeysV Try.prog 3 (rM R) := ⟨fun p hp => by
  obtain ⟨x, hx, rfl⟩ := List.mem_map.1 hp
  exact key_I x.1 (h x hx)⟩
theorem keysE {E : ET} (h : ∀ x ∈ E, LinkOk x.1) : KeysV Try.prog 99 (eM E) := ⟨fun p hp => by
  obtain ⟨x, hx, rfl⟩ := List.mem_map.1 hp
  exact key_lkK x.1 (h x hx)⟩
theorem look_none {α : Type} [BEq α] [LawfulBEq α] {n : α} : ∀ {R : List (α × Nat)}, R.lookup n = none ↔ ∀ x ∈ R, x.1 ≠ n
  | [] => by simp
  | (a, b) :: r => by
    rw [List.lookup_cons]
    by_cases h : n = a
    · subst h
      simp
    · have h1 : (n == a) = false := by simpa using h
      simp only [h1, List.mem_cons, forall_eq_or_imp]
      rw [look_none]
      exact ⟨fun k => ⟨fun e => h e.symm, k⟩, fun k => k.2⟩
theorem look_some {α : Type} [BEq α] [LawfulBEq α] {n : α} {q : Nat} : ∀ {R : List (α × Nat)}, R.lookup n = some q → (n, q) ∈ R
  | [], h => by cases h
  | (a, b) :: r, h => by
    rw [List.lookup_cons] at h
    by_cases e : n = a
    · subst e
      simp at h
      subst h
      exact List.mem_cons_self
    · have h1 : (n == a) = false := by simpa using e
      simp only [h1] at h
      exact List.mem_cons_of_mem _ (look_some h)
theorem noR {R : RT} {n : Nat} (h : R.lookup n = none) : MNo (rM R) (.int .i64 ((n : Nat) : Int)) := ⟨fun p hp e => by
  obtain ⟨x, hx, rfl⟩ := List.mem_map.1 hp
  exact look_none.1 h x hx (Int.ofNat.inj (Value.int.inj e).2)⟩
theorem noE {E : ET} {k : LinkT} (h : E.lookup k = none) : MNo (eM E) (lkK k) := ⟨fun p hp e => by
  obtain ⟨x, hx, rfl⟩ := List.mem_map.1 hp
  exact look_none.1 h x hx (lkK_inj e)⟩
def Once {α : Type} (R : List (α × Nat)) : Prop := (R.map Prod.fst).Nodup
theorem Once.eq {α : Type} [BEq α] [LawfulBEq α] : ∀ {R : List (α × Nat)}, Once R → ∀ {x : α} {q : Nat}, (x, q) ∈ R → R.lookup x = some q
  | (a, b) :: r, h, x, q, hm => by
    unfold Once at h
    rw [List.map_cons, List.nodup_cons] at h
    rw [List.lookup_cons]
    rcases List.mem_cons.1 hm with e | hm
    · cases e
      simp
    · have : x ≠ a := fun e => h.1 (by rw [← e]; exact List.mem_map.2 ⟨(x, q), hm, rfl⟩)
      have h1 : (x == a) = false := by simpa using this
      simp only [h1]
      exact Once.eq h.2 hm
theorem getR {R : RT} (h : Once R) (n : Nat) : MGetO (rM R) (.int .i64 ((n : Nat) : Int)) (.a [iK 0, iK 0]) (match R.lookup n with | some q => .a [iK n, iK q] | none => .a [iK 0, iK 0]) (R.lookup n).isSome := ⟨fun h1 => by
    have : R.lookup n = none := look_none.2 fun x hx e => h1 _ (List.mem_map.2 ⟨x, hx, rfl⟩) (by rw [e])
    rw [this]
    exact ⟨rfl, rfl⟩, fun p hp e => by
    obtain ⟨x, hx, rfl⟩ := List.mem_map.1 hp
    have e1 : x.1 = n := Int.ofNat.inj (Value.int.inj e).2
    have := h.eq (x := x.1) (q := x.2) hx
    rw [← e1, this]
    exact ⟨rfl, rfl⟩⟩
theorem getE {E : ET} (h : Once E) (k : LinkT) : MGetO (eM E) (lkK k) (iK 0) (match E.lookup k with | some q => iK q | none => iK 0) (E.lookup k).isSome := ⟨fun h1 => by
    have : E.lookup k = none := look_none.2 fun x hx e => h1 _ (List.mem_map.2 ⟨x, hx, rfl⟩) (by rw [e])
    rw [this]
    exact ⟨rfl, rfl⟩, fun p hp e => by
    obtain ⟨x, hx, rfl⟩ := List.mem_map.1 hp
    have e1 : x.1 = k := lkK_inj e
    have := h.eq (x := x.1) (q := x.2) hx
    rw [← e1, this]
    exact ⟨rfl, rfl⟩⟩
theorem getE_some {E : ET} (h : Once E) {k : LinkT} {q : Nat} (hq : E.lookup k = some q) : MGetO (eM E) (lkK k) (.k (.int .i64 0)) (iK q) true := by
  have := getE h k
  rw [hq] at this
  exact this
theorem getE_none {E : ET} (h : Once E) {k : LinkT} (hq : E.lookup k = none) : MGetO (eM E) (lkK k) (.k (.int .i64 0)) (.k (.int .i64 0)) false := by
  have := getE h k
  rw [hq] at this
  exact this
def idx (E : ET) (k : LinkT) : Nat := E.findIdx (·.1 = k)
theorem idx_at {E : ET} {k : LinkT} {q : Nat} (h : Once E) (hq : E.lookup k = some q) : E[idx E k]? = some (k, q) := by
  have hm := look_some hq
  have hlt : idx E k < E.length := List.findIdx_lt_length_of_exists ⟨(k, q), hm, by simp⟩
  rw [List.getElem?_eq_getElem hlt]
  have h1 : E[idx E k].1 = k := by
    have := List.findIdx_getElem (w := hlt)
    exact of_decide_eq_true this
  have h2 := h.eq (x := E[idx E k].1) (q := E[idx E k].2) (List.getElem_mem hlt)
  rw [h1, hq] at h2
  exact congrArg some (Prod.ext h1 (Option.some.inj h2).symm)
theorem once_at {α : Type} : ∀ {E : List (α × Nat)}, Once E → ∀ {i j : Nat} {p q : α × Nat}, E[i]? = some p → E[j]? = some q → p.1 = q.1 → i = j := fun {E} h {i j p q} hi hj e => by
  obtain ⟨hi1, hi2⟩ := List.getElem?_eq_some_iff.1 hi
  obtain ⟨hj1, hj2⟩ := List.getElem?_eq_some_iff.1 hj
  have := List.pairwise_iff_getElem.1 (List.nodup_iff_pairwise_ne.1 h)
  rcases Nat.lt_trichotomy i j with hlt | hlt | hlt
  · exact absurd (by rw [List.getElem_map, List.getElem_map, hi2, hj2, e]) (this i j (by rw [List.length_map]; exact hi1) (by rw [List.length_map]; exact hj1) hlt)
  · exact hlt
  · exact absurd (by rw [List.getElem_map, List.getElem_map, hi2, hj2, e]) (this j i (by rw [List.length_map]; exact hj1) (by rw [List.length_map]; exact hi1) hlt)
theorem atE {E : ET} {k : LinkT} {q : Nat} (h : Once E) (hq : E.lookup k = some q) : MAt (eM E) (idx E k) (lkK k) (iK q) := by
  have h1 := idx_at h hq
  refine ⟨by unfold eM; rw [List.getElem?_map, h1]; rfl, fun j p hp e => ?_⟩
  unfold eM at hp
  rw [List.getElem?_map] at hp
  obtain ⟨x, hx, rfl⟩ := Option.map_eq_some_iff.1 hp
  exact once_at h hx h1 (lkK_inj e)
end Cm
end Lf
end Go.Proofs.Ytgjoecocahpfhaa

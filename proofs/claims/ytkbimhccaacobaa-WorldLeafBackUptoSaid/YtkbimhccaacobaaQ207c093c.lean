/- A part of the proof: texts joined. -/
import Derived.Test.YtkbimhccaacobaaQ193a3745
namespace Go.Proofs.Ytkbimhccaacobaa
open Go.RowKit Rg Rp Go.WideShapes Go.ChangeShapes Wm Ar
set_option linter.unusedVariables false
set_option maxRecDepth 100000
namespace Lf
open Tr
section
variable {H : Type} {enc : TypeId × Value → H} {W : World}
end
def psA : List Pr := [([1, 2], [97]), ([1], [98])]
def nA : Rn := ofN (ofP psA)
attribute [irreducible] nA
namespace Te
end Te
end Lf
set_option maxRecDepth 100000
namespace Lf
open Tr
def wt : Nd → Nat
 | .no => 1
 | .leaf p v => 1 + p.length + v.length
 | .road p k => 2 + p.length + wt k
 | .fork ks v => 1 + v.length + ((List.finRange 16).map fun i => wt (ks i) + 1).sum
theorem wt_pos : ∀ n, 1 ≤ wt n
 | .no => Nat.le_refl _
 | .leaf _ _ => by simp only [wt]; omega
 | .road _ _ => by simp only [wt]; omega
 | .fork _ _ => by simp only [wt]; omega
def wts (ks : Fin 16 → Nd) : Nat := ((List.finRange 16).map fun i => wt (ks i) + 1).sum
theorem wt_fork (ks : Fin 16 → Nd) (v : List UInt8) : wt (.fork ks v) = 1 + v.length + wts ks := by rw [wt]; rfl
theorem sizeL_map {α : Type} (f : α → Rn) : ∀ l : List α, Rn.sizeL (l.map f) = (l.map fun a => (f a).size + 1).sum
 | [] => by simp [Rn.sizeL]
 | a :: r => by simp only [List.map_cons, List.sum_cons, Rn.sizeL, sizeL_map f r]
theorem size_of : ∀ n : Nd, (ofN n).size = wt n
 | .no => by simp [ofN, Rn.size, Rn.sizeL, wt]
 | .leaf p v => by simp [ofN, Rn.size, Rn.sizeL, wt, pB_len]
 | .road p k => by simp only [ofN, Rn.size, Rn.sizeL, wt, pB_len, size_of k, List.length_nil]; omega
 | .fork ks v => by
  simp only [ofN, Rn.size, wt, sizeL_map, List.length_nil, Nat.add_zero]
  congr 2
  apply List.map_congr_left
  intro i _
  rw [size_of (ks i)]
theorem sum_setK (g : Fin 16 → Nat) (x : Fin 16) (m : Nat) : ∀ l : List (Fin 16), l.Nodup → (l.map fun i => (if i = x then m else g i) + 1).sum + (if x ∈ l then g x else 0) = (l.map fun i => g i + 1).sum + (if x ∈ l then m else 0)
 | [], _ => by simp
 | a :: r, h => by
  have hn := List.nodup_cons.1 h
  have ih := sum_setK g x m r hn.2
  simp only [List.map_cons, List.sum_cons, List.mem_cons]
  by_cases ha : a = x
  ·subst ha
   rw [if_neg hn.1, if_neg hn.1] at ih
   simp only [true_or, if_true]
   omega
  ·have hx : (x = a ∨ x ∈ r) ↔ x ∈ r := ⟨fun h => h.resolve_left fun e => ha e.symm, Or.inr⟩
   simp only [hx, if_neg ha]
   omega
theorem wts_setK (ks : Fin 16 → Nd) (x : Fin 16) (n : Nd) : wts (setK ks x n) + wt (ks x) = wts ks + wt n := by
 have h := sum_setK (fun i => wt (ks i)) x (wt n) (List.finRange 16) (List.nodup_finRange 16)
 rw [if_pos (List.mem_finRange x), if_pos (List.mem_finRange x)] at h
 have e : wts (setK ks x n) = ((List.finRange 16).map fun i => (if i = x then wt n else wt (ks i)) + 1).sum := by
  unfold wts
  refine congrArg List.sum (List.map_congr_left fun i _ => ?_)
  unfold setK
  split <;> rfl
 rw [e]
 exact h
theorem sum_ge (g : Fin 16 → Nat) (hg : ∀ i, 1 ≤ g i) : ∀ l : List (Fin 16), 2 * l.length ≤ (l.map fun i => g i + 1).sum
 | [] => by simp
 | a :: r => by
  have := sum_ge g hg r
  have := hg a
  simp only [List.map_cons, List.sum_cons, List.length_cons]
  omega
theorem wts_ge (ks : Fin 16 → Nd) : 32 ≤ wts ks := by
 have h := sum_ge (fun i => wt (ks i)) (fun i => wt_pos _) (List.finRange 16)
 rw [List.length_finRange] at h
 exact h
theorem wts_at (ks : Fin 16 → Nd) (i : Fin 16) : 31 + wt (ks i) ≤ wts ks := by
 have h := wts_setK ks i .no
 have h2 := wts_ge (setK ks i .no)
 have h3 : wt .no = 1 := rfl
 omega
theorem wts_none : wts none16 = 32 := by rfl
theorem wt_behind : ∀ (p : Pa) (n : Nd), wt (behind p n) ≤ wt n + p.length + 2
 | [], n => by simp only [behind]; omega
 | _ :: _, .no => by simp only [behind]; omega
 | x :: p, .leaf q v => by simp only [behind, wt, List.length_append]; omega
 | x :: p, .road q k => by simp only [behind, wt, List.length_append]; omega
 | x :: p, .fork ks v => by simp only [behind, wt, List.length_cons]; omega
theorem wt_tidy (ks : Fin 16 → Nd) (v : List UInt8) : wt (tidy ks v) ≤ wt (.fork ks v) := by
 rw [wt_fork]
 have h := wts_ge ks
 unfold tidy
 split
 ·split
  ·simp only [wt]; omega
  ·simp only [wt, List.length_nil]; omega
 ·rename_i i _
  split
  ·have h1 := wt_behind [i] (ks i)
   have h2 := wts_at ks i
   simp only [List.length_cons, List.length_nil] at h1
   omega
  ·rw [wt_fork]; omega
 ·rw [wt_fork]; omega
theorem wt_part (pre pa : Pa) (a : Nd) (q : Pa) (v : List UInt8) : wt (Tr.part pre pa a q v) ≤ wt a + pre.length + pa.length + q.length + v.length + 50 := by
 unfold Tr.part
 refine Nat.le_trans (wt_behind _ _) ?_
 have hk : wts (kids1 pa a) + (val1 pa a).length ≤ 36 + wt a + pa.length := by
  cases pa with
  | nil =>
   show wts none16 + (Tr.valOf a).length ≤ _
   rw [wts_none]
   have : (Tr.valOf a).length ≤ wt a := by
    cases a <;> simp only [Tr.valOf, wt, List.length_nil] <;> omega
   omega
  | cons x r =>
   show wts (setK none16 x (behind r a)) + ([] : List UInt8).length ≤ _
   have h1 := wts_setK none16 x (behind r a)
   rw [wts_none] at h1
   have h2 := wt_behind r a
   simp only [List.length_cons, List.length_nil]
   omega
 cases q with
 | nil => simp only [wt_fork, List.length_nil]; omega
 | cons y s =>
  have h1 := wts_setK (kids1 pa a) y (.leaf s v)
  have h2 : wt (.leaf s v) = 1 + s.length + v.length := by rw [wt]
  simp only [wt_fork, List.length_cons]
  omega
theorem wt_put : ∀ (n : Nd) (p : Pa) (v : List UInt8), wt (Tr.put n p v) ≤ wt n + p.length + v.length + 50
 | .no, p, v => by
  simp only [Tr.put]
  split <;> simp only [wt] <;> omega
 | .leaf p0 v0, p, v => by
  simp only [Tr.put]
  split
  ·split <;> simp only [wt] <;> omega
  ·split
   ·omega
   ·have h := wt_part (p0.take (common p0 p)) (p0.drop (common p0 p)) (.leaf [] v0) (p.drop (common p0 p)) v
    simp only [List.length_take, List.length_drop, wt, List.length_nil] at h ⊢
    omega
 | .road p0 k, p, v => by
  simp only [Tr.put]
  split
  ·rename_i r hr
   have h1 := wt_behind p0 (Tr.put k r v)
   have h2 := wt_put k r v
   have h3 := congrArg List.length (rest_some hr)
   simp only [List.length_append] at h3
   simp only [wt]
   omega
  ·split
   ·omega
   ·have h := wt_part (p0.take (common p0 p)) (p0.drop (common p0 p)) k (p.drop (common p0 p)) v
    simp only [List.length_take, List.length_drop, wt] at h ⊢
    omega
 | .fork ks v0, [], v => by
  simp only [Tr.put]
  refine Nat.le_trans (wt_tidy _ _) ?_
  rw [wt_fork, wt_fork]
  omega
 | .fork ks v0, x :: p, v => by
  simp only [Tr.put]
  refine Nat.le_trans (wt_tidy _ _) ?_
  have h1 := wts_setK ks x (Tr.put (ks x) p v)
  have h2 := wt_put (ks x) p v
  rw [wt_fork, wt_fork, List.length_cons]
  omega
theorem size_put2 (n : Nd) (p : Pa) (v : List UInt8) : (ofN (Tr.put n p v)).size ≤ (ofN n).size + p.length + v.length + 50 := by
 rw [size_of, size_of]
 exact wt_put n p v
end Lf
set_option maxRecDepth 100000
namespace Ro
open Tr Pk
section
variable (S : List UInt8 → List UInt8)
end
theorem readS_bound {c : List UInt8} {s : Shp} (h : readS c = some s) : s.path.length ≤ 6 * c.length ∧ s.value.length ≤ 1024 ∧ s.kids.length ≤ 16 ∧ ∀ k ∈ s.kids, k.length = 32 ∨ k.length = 0 := by
  obtain ⟨it, hi1, hi2, hi3⟩ := code_read h
  have hb : s.path.length ≤ 6 * c.length := by
    have h1 := enc_size' it
    rw [itmS_nrm hi1, hi2] at h1
    rcases itmS_list hi1 with ⟨k, rfl⟩ | ⟨ts, rfl, ⟨k, rfl, b⟩ | ⟨k, rfl, b⟩ | ⟨k, rfl, b⟩⟩
    · have : s.path = [] := by rw [← hi3]; unfold normS; rw [if_pos k]
      rw [this]; exact Nat.zero_le _
    · have h2 := tagPa_len (pOf s.path) true
      have h3 := keyP_len (tag (pOf s.path) true)
      rw [keyP_tag] at h3
      have h4 : (pOf s.path).length + 1 ≤ (tagPa (pOf s.path) true).length := by unfold tagPa; split <;> simp
      rw [pOf_len] at h4
      have h5 : (tag (pOf s.path) true).length ≤ (ls ([tag (pOf s.path) true, s.value].map tx)).size := by
        show _ ≤ Itm.size (.mk true [] [.mk false _ [], .mk false _ []])
        simp only [Itm.size, Itm.sizeL]; omega
      omega
    · have h2 := tagPa_len (pOf s.path) false
      have h3 := keyP_len (tag (pOf s.path) false)
      rw [keyP_tag] at h3
      have h4 : (pOf s.path).length + 1 ≤ (tagPa (pOf s.path) false).length := by unfold tagPa; split <;> simp
      rw [pOf_len] at h4
      have h5 : (tag (pOf s.path) false).length ≤ (ls ([tag (pOf s.path) false, s.kids.getD 0 default].map tx)).size := by
        show _ ≤ Itm.size (.mk true [] [.mk false _ [], .mk false _ []])
        simp only [Itm.size, Itm.sizeL]; omega
      omega
    · have : s.path = [] := by rw [← hi3]; unfold normS; rw [if_neg (by omega), if_neg (by omega), if_neg (by omega)]
      rw [this]; exact Nat.zero_le _
  refine ⟨hb, ?_⟩
  rcases itmS_list hi1 with ⟨k, rfl⟩ | ⟨ts, rfl, ⟨k, rfl, b⟩ | ⟨k, rfl, b⟩ | ⟨k, rfl, b⟩⟩
  · have : s = ⟨0, [], [], []⟩ := by rw [← hi3]; unfold normS; rw [if_pos k]
    rw [this]; exact ⟨Nat.zero_le _, Nat.zero_le _, fun k hk => by cases hk⟩
  · have : s = ⟨1, s.path, s.value, []⟩ := by
      conv => lhs; rw [← hi3]
      unfold normS; rw [if_neg (by omega), if_pos k]
    refine ⟨b.2.2, ?_, ?_⟩
    · rw [this]; exact Nat.zero_le _
    · rw [this]; exact fun k hk => by cases hk
  · have : s = ⟨2, s.path, [], s.kids⟩ := by
      conv => lhs; rw [← hi3]
      unfold normS; rw [if_neg (by omega), if_neg (by omega), if_pos k]
    refine ⟨by rw [this]; exact Nat.zero_le _, by omega, fun k hk => ?_⟩
    obtain ⟨i, hi, e⟩ := List.mem_iff_getElem.1 hk
    have := b.2.2.2
    rw [List.getD_eq_getElem?_getD, List.getElem?_eq_getElem (show 0 < s.kids.length by omega), Option.getD_some] at this
    have hi0 : i = 0 := by omega
    subst hi0
    exact .inl (by rw [← e]; exact this)
  · refine ⟨b.2.1, by omega, fun k hk => ?_⟩
    have := List.all_eq_true.1 b.2.2.1 k hk
    unfold sum0 at this
    simpa using this
end Ro
open Go.RowKit Rg
set_option maxRecDepth 100000
namespace Lf
namespace St
theorem mapM_some {α β : Type} {f : α → Option β} : ∀ {l : List α}, (∀ x ∈ l, ∃ y, f x = some y) → ∃ r, l.mapM f = some r
 | [], _ => ⟨[], rfl⟩
 | x :: r, h => by
  obtain ⟨y, hy⟩ := h x (by simp)
  obtain ⟨s, hs⟩ := mapM_some (l := r) fun z hz => h z (by simp [hz])
  exact ⟨y :: s, by simp [List.mapM_cons, hy, hs]⟩
theorem u_u8 : Try.prog.underlying 5 = some (.int .u8) := by kernel_rfl
theorem u_hash : Try.prog.underlying 34 = some (.array 32 5) := by kernel_rfl
theorem c_u8 : Try.prog.cellsOf 5 = 1 := by kernel_rfl
theorem c_hash : Try.prog.cellsOf 34 = 32 := by kernel_rfl
theorem size_ge : ∃ n, Try.prog.types.size + 1 = n + 1 + 1 + 1 := by
 have h : Nat.ble 3 Try.prog.types.size = true := by kernel_rfl
 have := Nat.le_of_ble_eq_true h
 exact ⟨Try.prog.types.size - 2, by omega⟩
theorem kl_array {P : Program} {d t n e : Nat} {cs : List Value} (h : P.underlying t = some (.array n e)) : P.keyLits (d + 1) t cs = if cs.length = P.cellsOf t then ((List.range n).mapM fun i => P.keyLits d e ((cs.drop (i * P.cellsOf e)).take (P.cellsOf e))).map List.flatten else none := by
 simp only [Program.keyLits, h]
theorem lits_u8 (d : Nat) (b : UInt8) : Try.prog.keyLits (d + 1) 5 [.int .u8 (b.toNat : Int)] = some [.int .u8 (b.toNat : Int)] := by
 have := b.toNat_lt
 simp only [Program.keyLits, u_u8]
 rw [if_pos]
 simp [Lit.wf, IntKind.min, IntKind.max, IntKind.bits, IntKind.signed]
 omega
theorem lits_hash (d : Nat) (l : List UInt8) (h : l.length = 32) : ∃ r, Try.prog.keyLits (d + 1 + 1) 34 (l.map fun b => Value.int .u8 (b.toNat : Int)) = some r := by
 rw [kl_array u_hash, if_pos (by rw [c_hash, List.length_map, h])]
 obtain ⟨r, hr⟩ := mapM_some (l := List.range 32) (f := fun i => Try.prog.keyLits (d + 1) 5 (((l.map fun b => Value.int .u8 (b.toNat : Int)).drop (i * Try.prog.cellsOf 5)).take (Try.prog.cellsOf 5))) fun i hi => by
  have hi' : i < l.length := by rw [h]; exact List.mem_range.1 hi
  refine ⟨[.int .u8 ((l[i]).toNat : Int)], ?_⟩
  have e : ((l.map fun b => Value.int .u8 (b.toNat : Int)).drop i).take 1 = [Value.int .u8 ((l[i]).toNat : Int)] := by
   rw [← List.map_drop, ← List.map_take, List.drop_eq_getElem_cons hi']
   rfl
  rw [c_u8, Nat.mul_one, e]
  exact lits_u8 d _
 exact ⟨_, by rw [hr]; rfl⟩
end St
def hashL (h : List UInt8) : List Value := h.map fun b => Value.int .u8 (b.toNat : Int)
def hashK (h : List UInt8) : Value := .agg (hashL h).toArray
theorem hashL_inj : ∀ {a b : List UInt8}, hashL a = hashL b → a = b
 | [], [], _ => rfl
 | [], _ :: _, h => by simp [hashL] at h
 | _ :: _, [], h => by simp [hashL] at h
 | x :: r, y :: s, h => by
  simp only [hashL, List.map_cons, List.cons.injEq, Value.int.injEq, true_and] at h
  have e1 : x = y := UInt8.toNat_inj.1 (Int.ofNat.inj h.1)
  rw [e1, hashL_inj (a := r) (b := s) h.2]
theorem hashK_inj {a b : List UInt8} (h : hashK a = hashK b) : a = b := hashL_inj (by simpa using congrArg Array.toList (Value.agg.inj h))
theorem key_hash : Try.prog.keyType 34 = true := by kernel_rfl
theorem key_hashK {h : List UInt8} (hl : h.length = 32) : ∃ l, keyOf Try.prog 34 (hashK h) = some l := by
 obtain ⟨n, hn⟩ := St.size_ge
 obtain ⟨r, hr⟩ := St.lits_hash (n + 1) h hl
 have hc : (hashK h).cells.toList = hashL h := by simp [hashK, Value.cells]
 have hf : (hashK h).formed Try.prog 34 = true := by
  simp [hashK, Value.formed, St.u_hash, St.c_hash, hashL, hl]
 unfold keyOf
 rw [St.u_hash]
 simp only
 rw [if_pos (by rw [key_hash, hf]; rfl), hn, hc]
 have : Try.prog.keyLits (n + 1 + 1 + 1) 34 (hashL h) = some r := hr
 rw [this]
 exact ⟨_, rfl⟩
end Lf
end Go.Proofs.Ytkbimhccaacobaa

/- A part of the proof: texts joined. -/
import Derived.Test.YtkbimhccaacobaaQ9bb4f95
namespace Go.Proofs.Ytkbimhccaacobaa
open Go.RowKit Rg Wm Ar
set_option linter.unusedVariables false
set_option maxRecDepth 100000
namespace Lf
open Pk
abbrev misV : V := .i 196 (.a [])
namespace Pw
set_option maxHeartbeats 1000000 in
theorem take_ok (l : List UInt8) (n : Nat) (hn : n ≤ l.length) (hl : l.length < 1073741824) (i : Nat) : LM Try.prog 126 [.p i 0, uK n] [(i, .b [bV l])] fun o m => o = .ret (bV (l.take n)) ∧ m = [(i, .b [bV (l.drop n)])] := by
 refine LM.box1 (fun k => [.p k 0, uK n]) (fun _ _ => rfl) rfl rfl rfl ?_ i
 refine LM.enter tt Try.func126 rfl rfl rfl (by kernel_rfl) rfl rfl rfl (fun o mo h => by rw [h.2]; rfl) fun F _ => ?_
 exact wk trueW trueW trueW
theorem LM.box1P {P : Program} {f : Nat} (A : Nat → List V) {cs cs' : List V} {v : V} (hA : ∀ (ρ : Nat → Nat) k, (A k).map (V.ren ρ) = A (ρ k)) (h1 : V.refs.go [] cs = true) (h2 : V.refs.go [] cs' = true) (hv : v.refs [] = true)
  (h : LM P f (A 1000) [(1000, .b cs)] fun o m => o = .pan v ∧ m = [(1000, .b cs')]) (i : Nat) : LM P f (A i) [(i, .b cs)] fun o m => o = .pan v ∧ m = [(i, .b cs')] :=
 LM.gen [1000] [i] (by simp) (by simp) rfl h fun ρ hρ => by
  simp at hρ
  refine ⟨by rw [hA, hρ], ?_, ?_, ?_⟩
  ·simp [Mem.ren, M.ren, hρ, ren_cells h1]
  ·simp [Out.ren, ren_refs v hv]
  ·simp [Mem.ren, M.ren, hρ, ren_cells h2]
set_option maxHeartbeats 1000000 in
theorem take_no (l : List UInt8) (n : Nat) (hn : l.length < n) (hl : l.length < 1073741824) (i : Nat) : LM Try.prog 126 [.p i 0, uK n] [(i, .b [bV l])] fun o m => o = .pan misV ∧ m = [(i, .b [bV l])] := by
 refine LM.box1P (fun k => [.p k 0, uK n]) (fun _ _ => rfl) rfl rfl rfl ?_ i
 refine LM.enter tt Try.func126 rfl rfl rfl (by kernel_rfl) rfl rfl rfl (fun o mo h => by rw [h.2]; rfl) fun F _ => ?_
 exact wk trueW trueW trueW
end Pw
end Lf
open Go.RowKit Rg Wm Ar
set_option linter.unusedVariables false
set_option maxRecDepth 100000
namespace Lf
open Pk
theorem len_eq (c b : Nat) (l : List UInt8) (h : ¬ c < b + 48) : lenR c b l = if c - b - 48 + 1 ≤ l.length then (if (l.take (c - b - 48 + 1)).head? = some 0 ∨ 8 < (l.take (c - b - 48 + 1)).length then none else if Ps.beN (l.take (c - b - 48 + 1)) < 48 then none else some (Ps.beN (l.take (c - b - 48 + 1)), l.drop (c - b - 48 + 1))) else none := by
 unfold lenR take?
 rw [if_neg h]
 by_cases h2 : c - b - 48 + 1 ≤ l.length
 ·rw [if_pos h2, if_pos h2]
 ·rw [if_neg h2, if_neg h2]
theorem limb0 {x : Nat} (h : x < 18446744073709551616) : (limbs x).getD 0 default = x := by
 rw [limbs_get x (by decide)]
 unfold limb m64
 omega
theorem head0 {h : List UInt8} (h0 : 0 < h.length) : (h.head? = some 0 ↔ ((h.getD 0 default).toNat : Int) = 0) := by
 cases h with
 | nil => simp at h0
 | cons a r =>
  simp only [List.head?_cons, Option.some.injEq, List.getD_cons_zero]
  constructor
  ·rintro rfl; rfl
  ·intro e; exact u8_zero (by omega)
namespace Pw
set_option maxHeartbeats 2000000 in
theorem length_ (c b : UInt8) (hb : b.toNat = 128 ∨ b.toNat = 192) (hcb : b.toNat ≤ c.toNat) (hc : c.toNat < b.toNat + 64) (l : List UInt8) (hl : l.length < 1073741824) (i : Nat) :
  (∀ n r, lenR c.toNat b.toNat l = some (n, r) → LM Try.prog 127 [.p i 0, bK c, bK b] [(i, .b [bV l])] fun o m => o = .ret (uK n) ∧ m = [(i, .b [bV r])]) ∧
  (lenR c.toNat b.toNat l = none → ∃ r, LM Try.prog 127 [.p i 0, bK c, bK b] [(i, .b [bV l])] fun o m => o = .pan misV ∧ m = [(i, .b [bV r])]) := by
 have hcl := c.toNat_lt
 by_cases h1 : c.toNat < b.toNat + 48
 ·have e : lenR c.toNat b.toNat l = some (c.toNat - b.toNat, l) := by unfold lenR; rw [if_pos h1]
  rw [e]
  refine ⟨fun n r h => ?_, fun h => by cases h⟩
  cases h
  have hv1 : V.k (.int .u64 ((c.toNat : Int) - (b.toNat : Int))) = uK (c.toNat - b.toNat) := by unfold uK; rw [Int.natCast_sub hcb]
  clear e
  refine LM.box1 (fun k => [.p k 0, bK c, bK b]) (fun _ _ => rfl) rfl rfl rfl ?_ i
  refine LM.enter tt Try.func127 rfl rfl rfl (by kernel_rfl) rfl rfl rfl (fun o mo h => by rw [h.2]; rfl) fun F _ => ?_
  exact wk trueW trueW trueW
 ·rw [len_eq _ _ _ h1]
  have hx : IntKind.u64.wrap ((c.toNat : Int) - (b.toNat : Int) - 48 + 1) = ((c.toNat - b.toNat - 48 + 1 : Nat) : Int) := by rw [wrap_u64 (by omega)]; omega
  generalize hn0 : c.toNat - b.toNat - 48 + 1 = n0 at *
  have hn1 : 1 ≤ n0 := by omega
  by_cases h2 : n0 ≤ l.length
  ·rw [if_pos h2]
   have c1 := take_ok l n0 h2 hl
   have hlen : (l.take n0).length = n0 := by rw [List.length_take]; omega
   generalize l.take n0 = h at *
   generalize l.drop n0 = r at *
   have hz := head0 (h := h) (by omega)
   by_cases h3 : h.head? = some 0
   ·rw [if_pos (.inl h3)]
    refine ⟨fun n r h => (by cases h), fun _ => ⟨r, ?_⟩⟩
    have hz2 := hz.1 h3
    clear hz h3
    refine LM.box1P (fun k => [.p k 0, bK c, bK b]) (fun _ _ => rfl) rfl rfl rfl ?_ i
    refine LM.enter tt Try.func127 rfl rfl rfl (by kernel_rfl) rfl rfl rfl (fun o mo h => by rw [h.2]; rfl) fun F _ => ?_
    exact wk trueW trueW trueW
   ·have hz2 : ¬ ((h.getD 0 default).toNat : Int) = 0 := fun e => h3 (hz.2 e)
    by_cases h4 : 8 < h.length
    ·rw [if_pos (.inr h4)]
     refine ⟨fun n r h => (by cases h), fun _ => ⟨r, ?_⟩⟩
     clear hz h3
     refine LM.box1P (fun k => [.p k 0, bK c, bK b]) (fun _ _ => rfl) rfl rfl rfl ?_ i
     refine LM.enter tt Try.func127 rfl rfl rfl (by kernel_rfl) rfl rfl rfl (fun o mo h => by rw [h.2]; rfl) fun F _ => ?_
     exact wk trueW trueW trueW
    ·rw [if_neg (by intro e; rcases e with e | e; exact h3 e; exact h4 e)]
     have hlt : Ps.beN h < 18446744073709551616 := by
      have k1 := Ps.beN_lt h
      have k2 : 256 ^ h.length ≤ 256 ^ 8 := Nat.pow_le_pow_right (by decide) (by omega)
      have k3 : (256 : Nat) ^ 8 = 18446744073709551616 := by decide
      omega
     have c2 := Wo.Read h (by omega)
     have hq := limb0 hlt
     have hl4 := limbs_len (Ps.beN h)
     clear hz h3 hlt
     generalize Ps.beN h = x at *
     by_cases h5 : x < 48
     ·rw [if_pos h5]
      refine ⟨fun n r h => (by cases h), fun _ => ⟨r, ?_⟩⟩
      refine LM.box1P (fun k => [.p k 0, bK c, bK b]) (fun _ _ => rfl) rfl rfl rfl ?_ i
      refine LM.enter tt Try.func127 rfl rfl rfl (by kernel_rfl) rfl rfl rfl (fun o mo h => by rw [h.2]; rfl) fun F _ => ?_
      exact wk trueW trueW trueW
     ·rw [if_neg h5]
      refine ⟨fun n r' h => ?_, fun h => by cases h⟩
      cases h
      have hv1 : uK ((limbs x).getD 0 default) = uK x := by rw [hq]
      refine LM.box1 (fun k => [.p k 0, bK c, bK b]) (fun _ _ => rfl) rfl rfl rfl ?_ i
      refine LM.enter tt Try.func127 rfl rfl rfl (by kernel_rfl) rfl rfl rfl (fun o mo h => by rw [h.2]; rfl) fun F _ => ?_
      exact wk trueW trueW trueW
  ·rw [if_neg h2]
   refine ⟨fun n r h => (by cases h), fun _ => ⟨l, ?_⟩⟩
   have p1 := take_no l n0 (by omega) hl
   have hp1 : PanIn 3 7 := ⟨trivial⟩
   refine LM.box1P (fun k => [.p k 0, bK c, bK b]) (fun _ _ => rfl) rfl rfl rfl ?_ i
   refine LM.enter tt Try.func127 rfl rfl rfl (by kernel_rfl) rfl rfl rfl (fun o mo h => by rw [h.2]; rfl) fun F _ => ?_
   exact wk trueW trueW trueW
end Pw
end Lf
open Go.RowKit Rg Wm Ar
set_option linter.unusedVariables false
set_option maxRecDepth 100000
namespace Lf
open Pk
def ItemC (l : List UInt8) : Prop :=
 (∀ k r, rd l = some (k, r) → ∀ i, LM Try.prog 117 [.p i 0] [(i, .b [bV l])] fun o m => o = .ret (itV k) ∧ m = [(i, .b [bV r])]) ∧
 (rd l = none → ∃ r, ∀ i, LM Try.prog 117 [.p i 0] [(i, .b [bV l])] fun o m => o = .pan misV ∧ m = [(i, .b [bV r])])
theorem itV_false (t : List UInt8) : itV (.mk false t []) = .a [.k (.bool false), bV t, .s none []] := by simp only [itV, itC_eq]; rfl
theorem itV_true (ks : List Itm) : itV (.mk true [] ks) = .a [.k (.bool true), .s none [], .s none (ks.map itV)] := by simp only [itV, itC_eq]; rfl
namespace Pw
theorem item_ok {l r : List UInt8} {k : Itm} (hv : (itV k).refs [] = true)
  (h : LM Try.prog 117 [.p 1000 0] [(1000, .b [bV l])] fun o m => o = .ret (itV k) ∧ m = [(1000, .b [bV r])]) (i : Nat) : LM Try.prog 117 [.p i 0] [(i, .b [bV l])] fun o m => o = .ret (itV k) ∧ m = [(i, .b [bV r])] :=
 LM.box1 (fun k => [.p k 0]) (fun _ _ => rfl) rfl rfl hv h i
theorem item_no {l r : List UInt8}
  (h : LM Try.prog 117 [.p 1000 0] [(1000, .b [bV l])] fun o m => o = .pan misV ∧ m = [(1000, .b [bV r])]) (i : Nat) : LM Try.prog 117 [.p i 0] [(i, .b [bV l])] fun o m => o = .pan misV ∧ m = [(i, .b [bV r])] :=
 LM.box1P (fun k => [.p k 0]) (fun _ _ => rfl) rfl rfl rfl h i
theorem itV_refs (k : Itm) : (itV k).refs [] = true := itC_refs [] k
set_option maxHeartbeats 4000000 in
theorem item_flat (c : UInt8) (l : List UInt8) (hl : l.length < 1073741000) (h2 : c.toNat < 192) : ItemC (c :: l) := by
 have c1 := take_ok (c :: l) 1 (by simp) (by simp; omega)
 rw [show (c :: l).take 1 = [c] from rfl, show (c :: l).drop 1 = l from rfl] at c1
 have hc0 : ([c].getD 0 default).toNat = c.toNat := rfl
 unfold ItemC
 rw [rd]
 by_cases h1 : c.toNat < 128
 ·rw [if_pos h1]
  refine ⟨fun k r h => ?_, fun h => (by cases h)⟩
  cases h
  refine item_ok (itV_refs _) ?_
  rw [itV_false]
  refine LM.enter tt Try.func117 rfl rfl rfl (by kernel_rfl) rfl rfl rfl (fun o mo h => by rw [h.2]; rfl) fun F _ => ?_
  exact wk trueW trueW trueW
 ·rw [if_neg h1, if_pos h2]
  obtain ⟨k1, k2⟩ := length_ c 128 (.inl rfl) (by show 128 ≤ _; omega) (by show _ < 128 + 64; omega) l (by omega) 1000
  rw [show (128 : UInt8).toNat = 128 from rfl] at k1 k2
  unfold Pk.part
  cases hln : lenR c.toNat 128 l with
  | none =>
   obtain ⟨r, p1⟩ := k2 hln
   refine ⟨fun k r h => (by cases h), fun _ => ⟨r, item_no ?_⟩⟩
   have hp1 : PanIn 5 3 := ⟨trivial⟩
   clear k1 k2
   refine LM.enter tt Try.func117 rfl rfl rfl (by kernel_rfl) rfl rfl rfl (fun o mo h => by rw [h.2]; rfl) fun F _ => ?_
   exact wk trueW trueW trueW
  | some x =>
   obtain ⟨n, r1⟩ := x
   have c2 := k1 n r1 hln
   have hr1 := lenR_spec hln
   clear k1 k2 hln
   simp only []
   unfold take?
   by_cases hn : n ≤ r1.length
   ·rw [if_pos hn]
    simp only []
    have c3 := take_ok r1 n hn (by omega)
    have hlb : (r1.take n).length = n := by rw [List.length_take]; omega
    generalize r1.take n = b at *
    generalize r1.drop n = r at *
    by_cases hb : b.length = 1 ∧ b.getD 0 default < 128
    ·rw [if_pos hb]
     refine ⟨fun k r h => (by cases h), fun _ => ⟨r, item_no ?_⟩⟩
     have hb1 := hb.1
     have hb2 : ((b.getD 0 default).toNat : Int) < 128 := by have : (b.getD 0 default).toNat < 128 := hb.2; omega
     clear hb
     refine LM.enter tt Try.func117 rfl rfl rfl (by kernel_rfl) rfl rfl rfl (fun o mo h => by rw [h.2]; rfl) fun F _ => ?_
     exact wk trueW trueW trueW
    ·rw [if_neg hb]
     refine ⟨fun k r h => ?_, fun h => (by cases h)⟩
     cases h
     refine item_ok (itV_refs _) ?_
     rw [itV_false]
     by_cases hb1 : b.length = 1
     ·have hb2 : ¬ ((b.getD 0 default).toNat : Int) < 128 := fun e => hb ⟨hb1, (show (b.getD 0 default).toNat < 128 by omega)⟩
      clear hb
      refine LM.enter tt Try.func117 rfl rfl rfl (by kernel_rfl) rfl rfl rfl (fun o mo h => by rw [h.2]; rfl) fun F _ => ?_
      exact wk trueW trueW trueW
     ·clear hb
      refine LM.enter tt Try.func117 rfl rfl rfl (by kernel_rfl) rfl rfl rfl (fun o mo h => by rw [h.2]; rfl) fun F _ => ?_
      exact wk trueW trueW trueW
   ·rw [if_neg hn]
    have p1 := take_no r1 n (by omega) (by omega)
    refine ⟨fun k r h => (by cases h), fun _ => ⟨r1, item_no ?_⟩⟩
    have hp1 : PanIn 5 4 := ⟨trivial⟩
    refine LM.enter tt Try.func117 rfl rfl rfl (by kernel_rfl) rfl rfl rfl (fun o mo h => by rw [h.2]; rfl) fun F _ => ?_
    exact wk trueW trueW trueW
end Pw
end Lf
open Go.RowKit Rg Wm Ar
set_option linter.unusedVariables false
set_option maxRecDepth 100000
namespace Lf
open Pk
theorem map_none {α β : Type} {f : α → β} {o : Option α} (h : o = none) : o.map f = none := by rw [h]; rfl
namespace Pw
theorem item_nil : ItemC [] := by
 unfold ItemC
 rw [rd]
 refine ⟨fun k r h => (by cases h), fun _ => ⟨[], item_no ?_⟩⟩
 have p1 := take_no [] 1 (by decide) (by decide)
 have hp1 : PanIn 1 1 := ⟨trivial⟩
 refine LM.enter tt Try.func117 rfl rfl rfl (by kernel_rfl) rfl rfl rfl (fun o mo h => by rw [h.2]; rfl) fun F _ => ?_
 exact wk trueW trueW trueW
set_option maxHeartbeats 4000000 in
theorem item_list (c : UInt8) (l : List UInt8) (hl : l.length < 1073741000) (h2 : ¬ c.toNat < 192) (ih : ∀ b : List UInt8, b.length ≤ l.length → ItemC b) : ItemC (c :: l) := by
  have c1 := take_ok (c :: l) 1 (by simp) (by simp; omega)
  rw [show (c :: l).take 1 = [c] from rfl, show (c :: l).drop 1 = l from rfl] at c1
  have hc0 : ([c].getD 0 default).toNat = c.toNat := rfl
  have hcl := c.toNat_lt
  have h1 : ¬ c.toNat < 128 := by omega
  obtain ⟨k1, k2⟩ := length_ c 192 (.inr rfl) (by show 192 ≤ _; omega) (by show _ < 192 + 64; omega) l (by omega) 1000
  rw [show (192 : UInt8).toNat = 192 from rfl] at k1 k2
  have e : rd (c :: l) = match Pk.part c.toNat 192 l with
      | none => none
      | some (b, r) => match rdL b with
        | none => none
        | some ks => some (.mk true [] ks, r) := by
    rw [rd, if_neg h1, if_neg h2]
    split
    · rename_i hp; rw [hp]
    · rename_i b r hp; rw [hp]; first | done | rfl
  unfold ItemC
  rw [e]
  unfold Pk.part
  clear e
  cases hln : lenR c.toNat 192 l with
  | none =>
    obtain ⟨r, p1⟩ := k2 hln
    refine ⟨fun k r h => (by cases h), fun _ => ⟨r, item_no ?_⟩⟩
    have hp1 : PanIn 9 3 := ⟨trivial⟩
    clear k1 k2 ih
    refine LM.enter tt Try.func117 rfl rfl rfl (by kernel_rfl) rfl rfl rfl (fun o mo h => by rw [h.2]; rfl) fun F _ => ?_
    exact wk trueW trueW trueW
  | some x =>
    obtain ⟨n, r1⟩ := x
    have c2 := k1 n r1 hln
    have hr1 := lenR_spec hln
    clear k1 k2 hln
    simp only []
    unfold take?
    by_cases hn : n ≤ r1.length
    · rw [if_pos hn]
      simp only []
      have c3 := take_ok r1 n hn (by omega)
      have hlb : (r1.take n).length ≤ l.length := by rw [List.length_take]; omega
      generalize r1.take n = b at *
      generalize r1.drop n = r at *
      clear hn
      have hbr := itC_bare
      cases hL : rdL b with
      | none =>
        refine ⟨fun k r h => (by cases h), fun _ => ⟨r, item_no ?_⟩⟩
        refine LM.enter tt Try.func117 rfl rfl rfl (by kernel_rfl) rfl rfl rfl (fun o mo h => by rw [h.2]; rfl) fun F _ => ?_
        refine wk ?_ trueW trueW
        refine LC.nilcell 6 2 55 97 3 rfl rfl rfl (by decide) rfl ?_
        refine LC.loop3 (fun b' ks => [(0, .p 1000 0), (2, .p 2 0), (5, .p 5 0), (6, .p 6 0)]) (fun b' ks => [(1000, .b [bV r]), (2, .b [.k (.bool false), .nil, .nil]), (5, .b [bV b']), (6, .b [.k (.bool true), .nil, .s (some 55) (ks.map itV)]), (55, .r 97 3 ks.length)]) (fun b' ks => b'.length + ks.length ≤ l.length ∧ rdL b' = none) ((·.length)) (b) ([]) ⟨by simp; omega, hL⟩ ⟨rfl, rfl, rfl, rfl, trivial⟩ ⟨rfl, rfl, rfl, rfl, rfl, trivial⟩ rfl rfW rfW ?_
        rintro b' ks ⟨hlen, hrd⟩
        have hne : 0 < b'.length := by
          rcases Nat.eq_zero_or_pos b'.length with h0 | h0
          · rw [List.eq_nil_of_length_eq_zero h0, rdL] at hrd
            simp at hrd
          · exact h0
        obtain ⟨q1, q2⟩ := ih b' (by omega)
        cases hb : rd b' with
        | none =>
          obtain ⟨r2, p1⟩ := q2 hb
          have hq1 : PanInD 12 2 [0, 1, 5] := ⟨trivial⟩
          have hrf := itC_refs
          clear q1 q2 hb hrd hL ih
          exact wk trueW trueW trueW
        | some y =>
          obtain ⟨k, r2⟩ := y
          have c4 := q1 k r2 hb
          have hlt := rd_len hb
          have hok : r2.length + (ks ++ [k]).length ≤ l.length ∧ rdL r2 = none := ⟨by simp; omega, by
            rw [rdL_cons hb] at hrd
            simpa using hrd⟩
          have hk3 := itC_len k
          have hrf := itC_refs
          have hsz : ∀ e ∈ ks.map itV, e.cells.length = 3 := fun e he => by obtain ⟨a, _, rfl⟩ := List.mem_map.1 he; exact itC_len a
          clear q1 q2 hb hrd hL ih
          exact wk trueW trueW trueW
      | some ks0 =>
        refine ⟨fun k r h => ?_, fun h => (by cases h)⟩
        cases h
        refine item_ok (itV_refs _) ?_
        rw [itV_true]
        refine LM.enter tt Try.func117 rfl rfl rfl (by kernel_rfl) rfl rfl rfl (fun o mo h => by rw [h.2]; rfl) fun F _ => ?_
        refine wk ?_ trueW trueW
        refine LC.nilcell 6 2 55 97 3 rfl rfl rfl (by decide) rfl ?_
        refine LC.loop3 (fun b' ks => [(0, .p 1000 0), (2, .p 2 0), (5, .p 5 0), (6, .p 6 0)]) (fun b' ks => [(1000, .b [bV r]), (2, .b [.k (.bool false), .nil, .nil]), (5, .b [bV b']), (6, .b [.k (.bool true), .nil, .s (some 55) (ks.map itV)]), (55, .r 97 3 ks.length)]) (fun b' ks => b'.length + ks.length ≤ l.length ∧ (rdL b').map (ks ++ ·) = some ks0) ((·.length)) (b) ([]) ⟨by simp; omega, by rw [hL]; rfl⟩ ⟨rfl, rfl, rfl, rfl, trivial⟩ ⟨rfl, rfl, rfl, rfl, rfl, trivial⟩ rfl rfW rfW ?_
        rintro b' ks ⟨hlen, hrd⟩
        rcases Nat.eq_zero_or_pos b'.length with h0 | h0
        · have hb0 : b' = [] := List.eq_nil_of_length_eq_zero h0
          subst hb0
          rw [rdL] at hrd
          simp at hrd
          subst hrd
          clear ih hL hlb
          have hrf := itC_refs
          exact wk trueW trueW trueW
        · obtain ⟨q1, q2⟩ := ih b' (by omega)
          cases hb : rd b' with
          | none =>
            exfalso
            rw [rdL_none (fun e => by subst e; simp at h0) hb] at hrd
            cases hrd
          | some y =>
            obtain ⟨k, r2⟩ := y
            have c4 := q1 k r2 hb
            have hlt := rd_len hb
            have hok : r2.length + (ks ++ [k]).length ≤ l.length ∧ (rdL r2).map ((ks ++ [k]) ++ ·) = some ks0 := ⟨by simp; omega, by
              rw [rdL_cons hb, Option.map_map] at hrd
              rw [← hrd]
              congr 1
              funext z
              simp⟩
            have hk3 := itC_len k
            have hrf := itC_refs
            have hsz : ∀ e ∈ ks.map itV, e.cells.length = 3 := fun e he => by obtain ⟨a, _, rfl⟩ := List.mem_map.1 he; exact itC_len a
            clear q1 q2 hb hrd hL ih
            exact wk trueW trueW trueW
    · rw [if_neg hn]
      have p1 := take_no r1 n (by omega) (by omega)
      refine ⟨fun k r h => (by cases h), fun _ => ⟨r1, item_no ?_⟩⟩
      have hp1 : PanIn 9 4 := ⟨trivial⟩
      clear ih
      refine LM.enter tt Try.func117 rfl rfl rfl (by kernel_rfl) rfl rfl rfl (fun o mo h => by rw [h.2]; rfl) fun F _ => ?_
      exact wk trueW trueW trueW
theorem item_all : ∀ (n : Nat) (l : List UInt8), l.length ≤ n → n < 1073741000 → ItemC l := by
 intro n
 induction n with
 | zero =>
  intro l hl _
  have : l = [] := List.eq_nil_of_length_eq_zero (by omega)
  subst this
  exact item_nil
 | succ n ih =>
  intro l hl hn
  cases l with
  | nil => exact item_nil
  | cons c l =>
   have hl' : l.length ≤ n := by simpa using hl
   by_cases h2 : c.toNat < 192
   ·exact item_flat c l (by omega) h2
   ·exact item_list c l (by omega) h2 fun b hb => ih b (by omega) (by omega)
end Pw
end Lf
end Go.Proofs.Ytkbimhccaacobaa

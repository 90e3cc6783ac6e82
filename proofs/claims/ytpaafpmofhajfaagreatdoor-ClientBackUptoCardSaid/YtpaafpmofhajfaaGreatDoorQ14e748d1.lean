/- A part of the proof: texts joined. -/
import Derived.Test.YtpaafpmofhajfaaGreatDoorQ137c115d
set_option linter.unusedVariables false
set_option linter.unusedSimpArgs false
namespace Go.Proofs.YtpaafpmofhajfaaGreatDoor
open Go.RowKit Rg Wm Ar
set_option linter.unusedVariables false
set_option maxRecDepth 100000
namespace Lf
open Pk
def ItemC (l : List UInt8) : Prop :=
 (∀ k r, rd l = some (k, r) → ∀ i, LM Tryz.prog 74 [.p i 0] [(i, .b [bV l])] fun o m => o = .ret (itV k) ∧ m = [(i, .b [bV r])]) ∧
 (rd l = none → ∃ r, ∀ i, LM Tryz.prog 74 [.p i 0] [(i, .b [bV l])] fun o m => o = .pan misV ∧ m = [(i, .b [bV r])])
theorem itV_false (t : List UInt8) : itV (.mk false t []) = .a [.k (.bool false), bV t, .s none []] := by simp only [itV, itC_eq]; rfl
theorem itV_true (ks : List Itm) : itV (.mk true [] ks) = .a [.k (.bool true), .s none [], .s none (ks.map itV)] := by simp only [itV, itC_eq]; rfl
namespace Pw
theorem item_ok {l r : List UInt8} {k : Itm} (hv : (itV k).refs [] = true)
  (h : LM Tryz.prog 74 [.p 1000 0] [(1000, .b [bV l])] fun o m => o = .ret (itV k) ∧ m = [(1000, .b [bV r])]) (i : Nat) : LM Tryz.prog 74 [.p i 0] [(i, .b [bV l])] fun o m => o = .ret (itV k) ∧ m = [(i, .b [bV r])] :=
 LM.box1 (fun k => [.p k 0]) (fun _ _ => rfl) rfl rfl hv h i
theorem item_no {l r : List UInt8}
  (h : LM Tryz.prog 74 [.p 1000 0] [(1000, .b [bV l])] fun o m => o = .pan misV ∧ m = [(1000, .b [bV r])]) (i : Nat) : LM Tryz.prog 74 [.p i 0] [(i, .b [bV l])] fun o m => o = .pan misV ∧ m = [(i, .b [bV r])] :=
 LM.box1P (fun k => [.p k 0]) (fun _ _ => rfl) rfl rfl rfl h i
theorem itV_refs (k : Itm) : (itV k).refs [] = true := itC_refs [] k
set_option maxHeartbeats 4000000 in
theorem item_flat (c : UInt8) (l : List UInt8) (hl : l.length < 1073741000) (h2 : c.toNat < 192) : ItemC (c :: l) := by
 have c1 := take_ok (c :: l) 1 (by simp) (by simp; omega)
 rw [show (c :: l).take 1 = [c] from rfl, show (c :: l).drop 1 = l from rfl] at c1
 have hc0 : ([c].getD 0 default).toNat = c.toNat := rfl
 unfold ItemC
 rw [rd]
 by_cases h1 : c.toNat < 128
 ·rw [if_pos h1]
  refine ⟨fun k r h => ?_, fun h => (by cases h)⟩
  cases h
  refine item_ok (itV_refs _) ?_
  rw [itV_false]
  refine LM.enter tt Tryz.func74 rfl rfl rfl (by kernel_rfl) rfl rfl rfl (fun o mo h => by rw [h.2]; rfl) fun F _ => ?_
  exact wk trueW trueW trueW
 ·rw [if_neg h1, if_pos h2]
  obtain ⟨k1, k2⟩ := length_ c 128 (.inl rfl) (by show 128 ≤ _; omega) (by show _ < 128 + 64; omega) l (by omega) 1000
  rw [show (128 : UInt8).toNat = 128 from rfl] at k1 k2
  unfold Pk.part
  cases hln : lenR c.toNat 128 l with
  | none =>
   obtain ⟨r, p1⟩ := k2 hln
   refine ⟨fun k r h => (by cases h), fun _ => ⟨r, item_no ?_⟩⟩
   have hp1 : PanIn 5 3 := ⟨trivial⟩
   clear k1 k2
   refine LM.enter tt Tryz.func74 rfl rfl rfl (by kernel_rfl) rfl rfl rfl (fun o mo h => by rw [h.2]; rfl) fun F _ => ?_
   exact wk trueW trueW trueW
  | some x =>
   obtain ⟨n, r1⟩ := x
   have c2 := k1 n r1 hln
   have hr1 := lenR_spec hln
   clear k1 k2 hln
   simp only []
   unfold take?
   by_cases hn : n ≤ r1.length
   ·rw [if_pos hn]
    simp only []
    have c3 := take_ok r1 n hn (by omega)
    have hlb : (r1.take n).length = n := by rw [List.length_take]; omega
    generalize r1.take n = b at *
    generalize r1.drop n = r at *
    by_cases hb : b.length = 1 ∧ b.getD 0 default < 128
    ·rw [if_pos hb]
     refine ⟨fun k r h => (by cases h), fun _ => ⟨r, item_no ?_⟩⟩
     have hb1 := hb.1
     have hb2 : ((b.getD 0 default).toNat : Int) < 128 := by have : (b.getD 0 default).toNat < 128 := hb.2; omega
     clear hb
     refine LM.enter tt Tryz.func74 rfl rfl rfl (by kernel_rfl) rfl rfl rfl (fun o mo h => by rw [h.2]; rfl) fun F _ => ?_
     exact wk trueW trueW trueW
    ·rw [if_neg hb]
     refine ⟨fun k r h => ?_, fun h => (by cases h)⟩
     cases h
     refine item_ok (itV_refs _) ?_
     rw [itV_false]
     by_cases hb1 : b.length = 1
     ·have hb2 : ¬ ((b.getD 0 default).toNat : Int) < 128 := fun e => hb ⟨hb1, (show (b.getD 0 default).toNat < 128 by omega)⟩
      clear hb
      refine LM.enter tt Tryz.func74 rfl rfl rfl (by kernel_rfl) rfl rfl rfl (fun o mo h => by rw [h.2]; rfl) fun F _ => ?_
      exact wk trueW trueW trueW
     ·clear hb
      refine LM.enter tt Tryz.func74 rfl rfl rfl (by kernel_rfl) rfl rfl rfl (fun o mo h => by rw [h.2]; rfl) fun F _ => ?_
      exact wk trueW trueW trueW
   ·rw [if_neg hn]
    have p1 := take_no r1 n (by omega) (by omega)
    refine ⟨fun k r h => (by cases h), fun _ => ⟨r1, item_no ?_⟩⟩
    have hp1 : PanIn 5 4 := ⟨trivial⟩
    refine LM.enter tt Tryz.func74 rfl rfl rfl (by kernel_rfl) rfl rfl rfl (fun o mo h => by rw [h.2]; rfl) fun F _ => ?_
    exact wk trueW trueW trueW
end Pw
end Lf
open Go.RowKit Rg Wm Ar
set_option linter.unusedVariables false
set_option maxRecDepth 100000
namespace Lf
open Pk
theorem map_none {α β : Type} {f : α → β} {o : Option α} (h : o = none) : o.map f = none := by rw [h]; rfl
namespace Pw
theorem item_nil : ItemC [] := by
 unfold ItemC
 rw [rd]
 refine ⟨fun k r h => (by cases h), fun _ => ⟨[], item_no ?_⟩⟩
 have p1 := take_no [] 1 (by decide) (by decide)
 have hp1 : PanIn 1 1 := ⟨trivial⟩
 refine LM.enter tt Tryz.func74 rfl rfl rfl (by kernel_rfl) rfl rfl rfl (fun o mo h => by rw [h.2]; rfl) fun F _ => ?_
 exact wk trueW trueW trueW
set_option maxHeartbeats 4000000 in
theorem item_list (c : UInt8) (l : List UInt8) (hl : l.length < 1073741000) (h2 : ¬ c.toNat < 192) (ih : ∀ b : List UInt8, b.length ≤ l.length → ItemC b) : ItemC (c :: l) := by
  have c1 := take_ok (c :: l) 1 (by simp) (by simp; omega)
  rw [show (c :: l).take 1 = [c] from rfl, show (c :: l).drop 1 = l from rfl] at c1
  have hc0 : ([c].getD 0 default).toNat = c.toNat := rfl
  have hcl := c.toNat_lt
  have h1 : ¬ c.toNat < 128 := by omega
  obtain ⟨k1, k2⟩ := length_ c 192 (.inr rfl) (by show 192 ≤ _; omega) (by show _ < 192 + 64; omega) l (by omega) 1000
  rw [show (192 : UInt8).toNat = 192 from rfl] at k1 k2
  have e : rd (c :: l) = match Pk.part c.toNat 192 l with
      | none => none
      | some (b, r) => match rdL b with
        | none => none
        | some ks => some (.mk true [] ks, r) := by
    rw [rd, if_neg h1, if_neg h2]
    split
    · rename_i hp; rw [hp]
    · rename_i b r hp; rw [hp]; first | done | rfl
  unfold ItemC
  rw [e]
  unfold Pk.part
  clear e
  cases hln : lenR c.toNat 192 l with
  | none =>
    obtain ⟨r, p1⟩ := k2 hln
    refine ⟨fun k r h => (by cases h), fun _ => ⟨r, item_no ?_⟩⟩
    have hp1 : PanIn 9 3 := ⟨trivial⟩
    clear k1 k2 ih
    refine LM.enter tt Tryz.func74 rfl rfl rfl (by kernel_rfl) rfl rfl rfl (fun o mo h => by rw [h.2]; rfl) fun F _ => ?_
    exact wk trueW trueW trueW
  | some x =>
    obtain ⟨n, r1⟩ := x
    have c2 := k1 n r1 hln
    have hr1 := lenR_spec hln
    clear k1 k2 hln
    simp only []
    unfold take?
    by_cases hn : n ≤ r1.length
    · rw [if_pos hn]
      simp only []
      have c3 := take_ok r1 n hn (by omega)
      have hlb : (r1.take n).length ≤ l.length := by rw [List.length_take]; omega
      generalize r1.take n = b at *
      generalize r1.drop n = r at *
      clear hn
      have hbr := itC_bare
      cases hL : rdL b with
      | none =>
        refine ⟨fun k r h => (by cases h), fun _ => ⟨r, item_no ?_⟩⟩
        refine LM.enter tt Tryz.func74 rfl rfl rfl (by kernel_rfl) rfl rfl rfl (fun o mo h => by rw [h.2]; rfl) fun F _ => ?_
        refine wk ?_ trueW trueW
        refine LC.nilcell 6 2 55 69 3 rfl rfl rfl (by decide) rfl ?_
        refine LC.loop3 (fun b' ks => [(0, .p 1000 0), (2, .p 2 0), (5, .p 5 0), (6, .p 6 0)]) (fun b' ks => [(1000, .b [bV r]), (2, .b [.k (.bool false), .nil, .nil]), (5, .b [bV b']), (6, .b [.k (.bool true), .nil, .s (some 55) (ks.map itV)]), (55, .r 69 3 ks.length)]) (fun b' ks => b'.length + ks.length ≤ l.length ∧ rdL b' = none) ((·.length)) (b) ([]) ⟨by simp; omega, hL⟩ ⟨rfl, rfl, rfl, rfl, trivial⟩ ⟨rfl, rfl, rfl, rfl, rfl, trivial⟩ rfl rfW rfW ?_
        rintro b' ks ⟨hlen, hrd⟩
        have hne : 0 < b'.length := by
          rcases Nat.eq_zero_or_pos b'.length with h0 | h0
          · rw [List.eq_nil_of_length_eq_zero h0, rdL] at hrd
            simp at hrd
          · exact h0
        obtain ⟨q1, q2⟩ := ih b' (by omega)
        cases hb : rd b' with
        | none =>
          obtain ⟨r2, p1⟩ := q2 hb
          have hq1 : PanInD 12 2 [0, 1, 5] := ⟨trivial⟩
          have hrf := itC_refs
          clear q1 q2 hb hrd hL ih
          exact wk trueW trueW trueW
        | some y =>
          obtain ⟨k, r2⟩ := y
          have c4 := q1 k r2 hb
          have hlt := rd_len hb
          have hok : r2.length + (ks ++ [k]).length ≤ l.length ∧ rdL r2 = none := ⟨by simp; omega, by
            rw [rdL_cons hb] at hrd
            simpa using hrd⟩
          have hk3 := itC_len k
          have hrf := itC_refs
          have hsz : ∀ e ∈ ks.map itV, e.cells.length = 3 := fun e he => by obtain ⟨a, _, rfl⟩ := List.mem_map.1 he; exact itC_len a
          clear q1 q2 hb hrd hL ih
          exact wk trueW trueW trueW
      | some ks0 =>
        refine ⟨fun k r h => ?_, fun h => (by cases h)⟩
        cases h
        refine item_ok (itV_refs _) ?_
        rw [itV_true]
        refine LM.enter tt Tryz.func74 rfl rfl rfl (by kernel_rfl) rfl rfl rfl (fun o mo h => by rw [h.2]; rfl) fun F _ => ?_
        refine wk ?_ trueW trueW
        refine LC.nilcell 6 2 55 69 3 rfl rfl rfl (by decide) rfl ?_
        refine LC.loop3 (fun b' ks => [(0, .p 1000 0), (2, .p 2 0), (5, .p 5 0), (6, .p 6 0)]) (fun b' ks => [(1000, .b [bV r]), (2, .b [.k (.bool false), .nil, .nil]), (5, .b [bV b']), (6, .b [.k (.bool true), .nil, .s (some 55) (ks.map itV)]), (55, .r 69 3 ks.length)]) (fun b' ks => b'.length + ks.length ≤ l.length ∧ (rdL b').map (ks ++ ·) = some ks0) ((·.length)) (b) ([]) ⟨by simp; omega, by rw [hL]; rfl⟩ ⟨rfl, rfl, rfl, rfl, trivial⟩ ⟨rfl, rfl, rfl, rfl, rfl, trivial⟩ rfl rfW rfW ?_
        rintro b' ks ⟨hlen, hrd⟩
        rcases Nat.eq_zero_or_pos b'.length with h0 | h0
        · have hb0 : b' = [] := List.eq_nil_of_length_eq_zero h0
          subst hb0
          rw [rdL] at hrd
          simp at hrd
          subst hrd
          clear ih hL hlb
          have hrf := itC_refs
          exact wk trueW trueW trueW
        · obtain ⟨q1, q2⟩ := ih b' (by omega)
          cases hb : rd b' with
          | none =>
            exfalso
            rw [rdL_none (fun e => by subst e; simp at h0) hb] at hrd
            cases hrd
          | some y =>
            obtain ⟨k, r2⟩ := y
            have c4 := q1 k r2 hb
            have hlt := rd_len hb
            have hok : r2.length + (ks ++ [k]).length ≤ l.length ∧ (rdL r2).map ((ks ++ [k]) ++ ·) = some ks0 := ⟨by simp; omega, by
              rw [rdL_cons hb, Option.map_map] at hrd
              rw [← hrd]
              congr 1
              funext z
              simp⟩
            have hk3 := itC_len k
            have hrf := itC_refs
            have hsz : ∀ e ∈ ks.map itV, e.cells.length = 3 := fun e he => by obtain ⟨a, _, rfl⟩ := List.mem_map.1 he; exact itC_len a
            clear q1 q2 hb hrd hL ih
            exact wk trueW trueW trueW
    · rw [if_neg hn]
      have p1 := take_no r1 n (by omega) (by omega)
      refine ⟨fun k r h => (by cases h), fun _ => ⟨r1, item_no ?_⟩⟩
      have hp1 : PanIn 9 4 := ⟨trivial⟩
      clear ih
      refine LM.enter tt Tryz.func74 rfl rfl rfl (by kernel_rfl) rfl rfl rfl (fun o mo h => by rw [h.2]; rfl) fun F _ => ?_
      exact wk trueW trueW trueW
theorem item_all : ∀ (n : Nat) (l : List UInt8), l.length ≤ n → n < 1073741000 → ItemC l := by
 intro n
 induction n with
 | zero =>
  intro l hl _
  have : l = [] := List.eq_nil_of_length_eq_zero (by omega)
  subst this
  exact item_nil
 | succ n ih =>
  intro l hl hn
  cases l with
  | nil => exact item_nil
  | cons c l =>
   have hl' : l.length ≤ n := by simpa using hl
   by_cases h2 : c.toNat < 192
   ·exact item_flat c l (by omega) h2
   ·exact item_list c l (by omega) h2 fun b hb => ih b (by omega) (by omega)
end Pw
end Lf
end Go.Proofs.YtpaafpmofhajfaaGreatDoor

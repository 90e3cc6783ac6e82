/- Package pack: an item is read. -/
import Derived.Test.YtgeccggkdgpkiaaPk5
namespace Go.Proofs.Ytgeccggkdgpkiaa
open Go.RowKit Rg Wm Ar
set_option maxRecDepth 100000
namespace Lf
open Pk
def ItemC (l : List UInt8) : Prop :=
  (∀ k r, rd l = some (k, r) → ∀ i, LM Try.prog 48 [.p i 0] [(i, .b [bV l])] fun o m => o = .ret (itV k) ∧ m = [(i, .b [bV r])]) ∧
  (rd l = none → ∃ r, ∀ i, LM Try.prog 48 [.p i 0] [(i, .b [bV l])] fun o m => o = .pan misV ∧ m = [(i, .b [bV r])])
theorem itV_false (t : List UInt8) : itV (.mk false t []) = .a [.k (.bool false), bV t, .s none []] := by simp only [itV, itC_eq]; rfl
theorem itV_true (ks : List Itm) : itV (.mk true [] ks) = .a [.k (.bool true), .s none [], .s none (ks.map itV)] := by simp only [itV, itC_eq]; rfl
namespace Pw
theorem item_ok {l r : List UInt8} {k : Itm} (hv : (itV k).refs [] = true)
    (h : LM Try.prog 48 [.p 1000 0] [(1000, .b [bV l])] fun o m => o = .ret (itV k) ∧ m = [(1000, .b [bV r])]) (i : Nat) : LM Try.prog 48 [.p i 0] [(i, .b [bV l])] fun o m => o = .ret (itV k) ∧ m = [(i, .b [bV r])] :=
  LM.box1 (fun k => [.p k 0]) (fun _ _ => rfl) rfl rfl hv h i
theorem item_no {l r : List UInt8}
    (h : LM Try.prog 48 [.p 1000 0] [(1000, .b [bV l])] fun o m => o = .pan misV ∧ m = [(1000, .b [bV r])]) (i : Nat) : LM Try.prog 48 [.p i 0] [(i, .b [bV l])] fun o m => o = .pan misV ∧ m = [(i, .b [bV r])] :=
  LM.box1P (fun k => [.p k 0]) (fun _ _ => rfl) rfl rfl rfl h i
theorem itV_refs (k : Itm) : (itV k).refs [] = true := itC_refs [] k
set_option maxHeartbeats 4000000 in
theorem item_flat (c : UInt8) (l : List UInt8) (hl : l.length < 1073741000) (h2 : c.toNat < 192) : ItemC (c :: l) := by
  have c1 := take_ok (c :: l) 1 (by simp) (by simp; omega)
  rw [show (c :: l).take 1 = [c] from rfl, show (c :: l).drop 1 = l from rfl] at c1
  have hc0 : ([c].getD 0 default).toNat = c.toNat := rfl
  unfold ItemC
  rw [rd]
  by_cases h1 : c.toNat < 128
  · rw [if_pos h1]
    refine ⟨fun k r h => ?_, fun h => (by cases h)⟩
    cases h
    refine item_ok (itV_refs _) ?_
    rw [itV_false]
    refine LM.enter tt Try.func48 rfl rfl rfl (by kernel_rfl) rfl rfl rfl (fun o mo h => by rw [h.2]; rfl) fun F _ => ?_
    exact wk trueW trueW trueW
  · rw [if_neg h1, if_pos h2]
    obtain ⟨k1, k2⟩ := length_ c 128 (.inl rfl) (by show 128 ≤ _; omega) (by show _ < 128 + 64; omega) l (by omega) 1000
    rw [show (128 : UInt8).toNat = 128 from rfl] at k1 k2
    unfold Pk.part
    cases hln : lenR c.toNat 128 l with
    | none =>
      obtain ⟨r, p1⟩ := k2 hln
      refine ⟨fun k r h => (by cases h), fun _ => ⟨r, item_no ?_⟩⟩
      have hp1 : PanIn 5 3 := ⟨trivial⟩
      clear k1 k2
      refine LM.enter tt Try.func48 rfl rfl rfl (by kernel_rfl) rfl rfl rfl (fun o mo h => by rw [h.2]; rfl) fun F _ => ?_
      exact wk trueW trueW trueW
    | some x =>
      obtain ⟨n, r1⟩ := x
      have c2 := k1 n r1 hln
      have hr1 := lenR_spec hln
      clear k1 k2 hln
      simp only []
      unfold take?
      by_cases hn : n ≤ r1.length
      · rw [if_pos hn]
        simp only []
        have c3 := take_ok r1 n hn (by omega)
        have hlb : (r1.take n).length = n := by rw [List.length_take]; omega
        generalize r1.take n = b at *
        generalize r1.drop n = r at *
        by_cases hb : b.length = 1 ∧ b.getD 0 default < 128
        · rw [if_pos hb]
          refine ⟨fun k r h => (by cases h), fun _ => ⟨r, item_no ?_⟩⟩
          have hb1 := hb.1
          have hb2 : ((b.getD 0 default).toNat : Int) < 128 := by have : (b.getD 0 default).toNat < 128 := hb.2; omega
          clear hb
          refine LM.enter tt Try.func48 rfl rfl rfl (by kernel_rfl) rfl rfl rfl (fun o mo h => by rw [h.2]; rfl) fun F _ => ?_
          exact wk trueW trueW trueW
        · rw [if_neg hb]
          refine ⟨fun k r h => ?_, fun h => (by cases h)⟩
          cases h
          refine item_ok (itV_refs _) ?_
          rw [itV_false]
          by_cases hb1 : b.length = 1
          · have hb2 : ¬ ((b.getD 0 default).toNat : Int) < 128 := fun e => hb ⟨hb1, (show (b.getD 0 default).toNat < 128 by omega)⟩
            clear hb
            refine LM.enter tt Try.func48 rfl rfl rfl (by kernel_rfl) rfl rfl rfl (fun o mo h => by rw [h.2]; rfl) fun F _ => ?_
            exact wk trueW trueW trueW
          · clear hb
            refine LM.enter tt Try.func48 rfl rfl rfl (by kernel_rfl) rfl rfl rfl (fun o mo h => by rw [h.2]; rfl) fun F _ => ?_
            exact wk trueW trueW trueW
      · rw [if_neg hn]
        have p1 := take_no r1 n (by omega) (by omega)
        refine ⟨fun k r h => (by cases h), fun _ => ⟨r1, item_no ?_⟩⟩
        have hp1 : PanIn 5 4 := ⟨trivial⟩
        refine LM.enter tt Try.func48 rfl rfl rfl (by kernel_rfl) rfl rfl rfl (fun o mo h => by rw [h.2]; rfl) fun F _ => ?_
        exact wk trueW trueW trueW
end Pw
end Lf
end Go.Proofs.Ytgeccggkdgpkiaa

/- What is joined is the filter of both. -/
import Derived.Test.YtgeccggkdgpkiaaBl3
import Derived.Test.YtgeccggkdgpkiaaSl6
namespace Go.Proofs.Ytgeccggkdgpkiaa
open Go.RowKit Rg
namespace Lf
namespace Bl
theorem fold_J {f : List UInt8} (hf : f.length = 32) : ∀ (ts : List (List UInt8)) {g : List UInt8}, g.length = 32 → ts.foldl addT (J f g) = J f (ts.foldl addT g)
  | [], _, _ => rfl
  | t :: ts, g, hg => by
    rw [List.foldl_cons, List.foldl_cons, addT_J hf hg, fold_J hf ts (by rw [addT_len, hg])]
theorem ofB_append (a b : List (List UInt8)) : ofB (a ++ b) = J (ofB a) (ofB b) := by
  have h := fold_J (ofB_len a) b (g := z32) rfl
  rw [J_zero (ofB_len a)] at h
  unfold ofB at h ⊢
  rw [List.foldl_append, h]
theorem n2_of {l : List (List UInt8)} {m : Nat} (h : (l.map fun l => l.length + 1).sum + 1 ≤ m) (hm : m ≤ 1048576) : l.length < 2097152 := by have := len_le l; omega
set_option maxHeartbeats 2000000 in
theorem BloomJoins (a b : List (List UInt8)) (hn : a.length < 2097152) (ht : ∀ t ∈ a, t.length < 1073741824) (hn2 : b.length < 2097152) (ht2 : ∀ t ∈ b, t.length < 1073741824) :
    LF Try.prog 8 [.s none (a.map fun t => .s none (t.map bK)), .s none (b.map fun t => .s none (t.map bK))] (fun _ => .k (.bool true)) none := by
  have c1 := alive10
  have e1 : [a, b].flatten = a ++ b := by simp
  have e2 : [b, a, b].flatten = b ++ (a ++ b) := by simp
  have m1 : (a ++ b).length < 1073741824 := by rw [List.length_append]; omega
  have m2 : (b ++ (a ++ b)).length < 1073741824 := by rw [List.length_append, List.length_append]; omega
  have m3 : ∀ t ∈ a ++ b, t.length < 1073741824 := fun t h => (List.mem_append.1 h).elim (ht t) (ht2 t)
  have c2 := Of a (by omega) ht
  have c3 := Of b (by omega) ht2
  have c4 := Of (a ++ b) m1 m3
  have c5 := Of (b ++ (a ++ b)) m2 fun t h => (List.mem_append.1 h).elim (ht2 t) (m3 t)
  have c6 := Sl6.ConcatBB [a, b] (show 2 < 1073741824 by omega) (by rw [e1]; exact m1) 21
  have c7 := Sl6.ConcatBB [b, a, b] (show 3 < 1073741824 by omega) (by rw [e2]; exact m2) 30
  rw [e1] at c6
  rw [e2] at c7
  rw [ofB_append] at c4
  rw [ofB_append, ofB_append, show J (ofB b) (J (ofB a) (ofB b)) = J (ofB a) (ofB b) from W_right _ _] at c5
  have l1 := ofB_len a
  have l2 := ofB_len b
  generalize ofB a = f at c2 c4 c5 l1
  generalize ofB b = g at c3 c4 c5 l2
  have l3 := J_len l1 l2
  have c8 := Join f g l1 l2
  have c9 := Join g f l2 l1
  rw [J_comm g f] at c9
  have c10 := Join (J f g) f l3 l1
  rw [show J (J f g) f = J f g by rw [J_comm]; exact W_left f g] at c10
  have c11 := Within f (J f g) l1 l3 (decide_eq_true (W_left f g))
  have c12 := Within g (J f g) l2 l3 (decide_eq_true (W_right f g))
  generalize J f g = p at c4 c5 c8 c9 c10 c11 c12 l3
  generalize hx : a ++ b = x at c4 c6 m1
  generalize hy : b ++ (a ++ b) = y at c5 c7 m2
  clear ht ht2 m3 e1 e2
  refine LFx.mk' tt Try.func8 rfl rfl rfl (by kernel_rfl) rfl rfl fun F => ?_
  exact wk trueW trueW trueW
end Bl
end Lf
end Go.Proofs.Ytgeccggkdgpkiaa

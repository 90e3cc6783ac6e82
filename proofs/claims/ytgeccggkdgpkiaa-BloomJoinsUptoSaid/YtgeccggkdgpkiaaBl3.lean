/- Nothing that is there is denied; to be within is an order. -/
import Derived.Test.YtgeccggkdgpkiaaBl2
namespace Go.Proofs.Ytgeccggkdgpkiaa
open Go.RowKit Rg
namespace Lf
namespace Bl
theorem sum_ge {l : List (List UInt8)} {t : List UInt8} (h : t ∈ l) : t.length + 1 ≤ (l.map fun l => l.length + 1).sum := by
  induction l with
  | nil => cases h
  | cons x l ih =>
    simp only [List.map_cons, List.sum_cons]
    rcases List.mem_cons.1 h with rfl | h
    · omega
    · have := ih h; omega
theorem len_le (l : List (List UInt8)) : l.length ≤ (l.map fun l => l.length + 1).sum := by
  induction l with
  | nil => simp
  | cons x l ih => simp only [List.map_cons, List.sum_cons, List.length_cons]; omega
theorem n_of {l : List (List UInt8)} {m : Nat} (h : (l.map fun l => l.length + 1).sum + 1 ≤ m) (hm : m ≤ 1048576) : l.length < 1073741824 := by have := len_le l; omega
theorem t_of {l : List (List UInt8)} {m : Nat} (h : (l.map fun l => l.length + 1).sum + 1 ≤ m) (hm : m ≤ 1048576) : ∀ t ∈ l, t.length < 1073741824 := fun t ht => by have := sum_ge ht; omega
set_option maxHeartbeats 2000000 in
theorem BloomNever (ts ms : List (List UInt8)) (hn : ts.length < 1073741824) (ht : ∀ t ∈ ts, t.length < 1073741824) (hn2 : ms.length < 1073741824) (ht2 : ∀ t ∈ ms, t.length < 1073741824) :
    LF Try.prog 6 [.s none (ts.map fun t => .s none (t.map bK)), .s none (ms.map fun t => .s none (t.map bK))] (fun _ => .k (.bool true)) none := by
  have c1 := alive10
  have c2 := Of ts hn ht
  have c3 := Of ms hn2 ht2
  have l1 := ofB_len ts
  have l2 := ofB_len ms
  have hW : ∀ t ∈ ts, W (ofB [t]) (ofB ts) := fun t h => by
    have := ofB_mem (f := z32) rfl h
    unfold ofB; unfold ofB at this; exact this
  generalize ofB ts = f at c2 l1 hW
  generalize ofB ms = g at c3 l2
  have c4 := Join f g l1 l2
  have c5 := Join g f l2 l1
  have l3 := J_len l1 l2
  have l4 := J_len l2 l1
  have w1 := W_left f g
  have w2 := W_right g f
  generalize J f g = p at c4 l3 w1
  generalize J g f = q at c5 l4 w2
  refine LFx.mk' tt Try.func6 rfl rfl rfl (by kernel_rfl) rfl rfl fun F => ?_
  refine wk ?_ trueW trueW
  refine LC.loopN (fun i => [(0, .s none (ts.map fun t => .s none (t.map bK))), (5, .p 5 0), (6, .p 6 0), (15, .s none (ts.map fun t => .s none (t.map bK))), (16, .k (.int .i64 ((ts.length : Nat) : Int))), (17, .k (.int .i64 ((i : Nat) : Int)))]) (fun i => [(5, .b (f.map bK)), (6, .b (g.map bK))]) (fun i => i ≤ ts.length) ((ts.length - ·)) (0) (by omega) ⟨rfl, rfl, rfl, rfl, rfl, rfl, trivial⟩ ⟨rfl, rfl, trivial⟩ rfl (by first | exact rfl | (simp only [V.cells, refsE, refsM, V.refs, V.refs.go, V.pure, V.pure.go, pure_mapq, pure_mapb, refs_mapq, refs_mapb, refs_append, Bool.and_true, Bool.true_and, Bool.and_self] <;> exact rfl) | (simp only [V.cells, refsE, refsM, V.refs, V.refs.go, V.pure, V.pure.go, pure_mapq, pure_mapb, refs_mapq, refs_mapb, refs_append, Bool.and_true, Bool.true_and, Bool.and_self, hrf] <;> exact rfl) | (simp only [V.cells, refsE, refsM, V.refs, V.refs.go, V.pure, V.pure.go, pure_mapq, pure_mapb, refs_mapq, refs_mapb, refs_append, Bool.and_true, Bool.true_and, Bool.and_self, hrf, hrg] <;> exact rfl) | exact lz) (by first | exact rfl | (simp only [V.cells, refsE, refsM, V.refs, V.refs.go, V.pure, V.pure.go, pure_mapq, pure_mapb, refs_mapq, refs_mapb, refs_append, Bool.and_true, Bool.true_and, Bool.and_self] <;> exact rfl) | (simp only [V.cells, refsE, refsM, V.refs, V.refs.go, V.pure, V.pure.go, pure_mapq, pure_mapb, refs_mapq, refs_mapb, refs_append, Bool.and_true, Bool.true_and, Bool.and_self, hrf] <;> exact rfl) | (simp only [V.cells, refsE, refsM, V.refs, V.refs.go, V.pure, V.pure.go, pure_mapq, pure_mapb, refs_mapq, refs_mapb, refs_append, Bool.and_true, Bool.true_and, Bool.and_self, hrf, hrg] <;> exact rfl) | exact lz) ?_
  intro i hi
  rcases Nat.lt_or_ge i ts.length with h | h
  · have hm : ts.getD i default ∈ ts := by
      rw [List.getD_eq_getElem?_getD, List.getElem?_eq_getElem h]; exact List.getElem_mem h
    have hT := ht _ hm
    have hw := hW _ hm
    have c6 := May f (ts.getD i default) l1 hT (decide_eq_true hw)
    have c7 := May p (ts.getD i default) l3 hT (decide_eq_true (W_trans hw w1))
    have c8 := May q (ts.getD i default) l4 hT (decide_eq_true (W_trans hw w2))
    have hok : i + 1 ≤ ts.length := h
    clear hm hT hw hW w1 w2 ht ht2
    exact wk trueW trueW trueW
  · obtain rfl : i = ts.length := by omega
    exact wk trueW trueW trueW
set_option maxHeartbeats 4000000 in
theorem BloomWithin (f g h : List UInt8) (hf : f.length = 32) (hg : g.length = 32) (hh : h.length = 32) :
    LF Try.prog 7 [.a (f.map bK), .a (g.map bK), .a (h.map bK)] (fun _ => .k (.bool true)) none := by
  have hu : J (J f g) h = h ↔ J f h = h ∧ J g h = h := W_lub
  have htr : J f g = g → J g h = h → J f h = h := fun a b => W_trans a b
  have hae : J f g = g → J g f = f → f = g := fun a b => W_anti a b
  have he1 : f = g → J f g = g := fun e => by subst e; exact J_self f
  have he2 : f = g → J g f = f := fun e => by subst e; exact J_self f
  have c1 := alive10
  have c2 := Within f f hf hf (r := true) (decide_eq_true (J_self f))
  have c7 := Join f g hf hg
  have lj := J_len hf hg
  by_cases a1 : J f g = g <;> by_cases a2 : J g f = f <;> by_cases a3 : J g h = h <;> by_cases a4 : J f h = h
  all_goals (by_cases e : f = g)
  all_goals first | exact absurd (he1 e) a1 | exact absurd (he2 e) a2 | exact absurd (hae a1 a2) e | exact absurd (htr a1 a3) a4 | skip
  all_goals
    have c3 := Within f g hf hg (by first | exact decide_eq_true a1 | exact decide_eq_false a1)
    have c4 := Within g f hg hf (by first | exact decide_eq_true a2 | exact decide_eq_false a2)
    have c5 := Within g h hg hh (by first | exact decide_eq_true a3 | exact decide_eq_false a3)
    have c6 := Within f h hf hh (by first | exact decide_eq_true a4 | exact decide_eq_false a4)
    have c8 := Within (J f g) h lj hh (by first | exact decide_eq_true (hu.2 ⟨a4, a3⟩) | exact decide_eq_false (fun k => a4 (hu.1 k).1) | exact decide_eq_false (fun k => a3 (hu.1 k).2))
    clear hu htr hae he1 he2 a1 a2 a3 a4
    generalize J f g = p at c7 c8 lj
    refine LFx.mk' tt Try.func7 rfl rfl rfl (by kernel_rfl) rfl rfl fun F => ?_
    exact wk trueW trueW trueW
end Bl
end Lf
end Go.Proofs.Ytgeccggkdgpkiaa

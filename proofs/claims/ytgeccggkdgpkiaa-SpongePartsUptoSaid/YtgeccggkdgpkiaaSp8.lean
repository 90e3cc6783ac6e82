/- However a text is parted it comes to the same. -/
import Derived.Test.YtgeccggkdgpkiaaSp7
namespace Go.Proofs.Ytgeccggkdgpkiaa
open Go.RowKit Rg
namespace Lf
theorem sz_mem {l : List (List UInt8)} {t : List UInt8} (h : t ∈ l) : t.length ≤ (l.map fun l => l.length + 1).sum := by
  induction l with
  | nil => cases h
  | cons a r ih =>
    simp only [List.map_cons, List.sum_cons]
    rcases List.mem_cons.1 h with rfl | h
    · omega
    · have := ih h; omega
theorem sz_flat (l : List (List UInt8)) : l.flatten.length + l.length = (l.map fun l => l.length + 1).sum := by
  induction l with
  | nil => rfl
  | cons a r ih => simp only [List.flatten_cons, List.length_append, List.length_cons, List.map_cons, List.sum_cons]; omega
theorem outN_last (ps : List (List UInt8)) (h : 0 < ps.length) : (outN ps ps.length).getD (ps.length - 1) default = sumB ps.flatten := by
  rw [outN_get ps (by omega), show ps.length - 1 + 1 = ps.length by omega, List.take_length]
namespace Sp
theorem EachL (ps : List (List UInt8)) (hn : ps.length < 1073741824) (ht : ∀ t ∈ ps, t.length < 1073741824) : ∃ L : List (List UInt8), LF Try.prog 20 [.s none (ps.map bV)] (fun _ => .s none (L.map hV)) none ∧ L.length = ps.length ∧ (0 < ps.length → L.getD (L.length - 1) default = sumB ps.flatten) := by
  have h1 := outN_len ps ps.length
  exact ⟨_, Each ps hn ht, h1, fun h => by rw [h1]; exact outN_last ps h⟩
set_option maxHeartbeats 2000000 in
theorem SpongeParts (a b : List (List UInt8)) (ha : (a.map fun l => l.length + 1).sum < 2000000) (hb : (b.map fun l => l.length + 1).sum < 2000000) : LF Try.prog 5 [.s none (a.map bV), .s none (b.map bV)] (fun _ => .k (.bool true)) none := by
  have c1 := alive3
  have f1 := sz_flat a
  have f2 := sz_flat b
  have ma : ∀ t ∈ a, t.length < 1073741824 := fun t h => by have := sz_mem h; omega
  have mb : ∀ t ∈ b, t.length < 1073741824 := fun t h => by have := sz_mem h; omega
  obtain ⟨Z, c2, z1, z2⟩ := EachL a (by omega) ma
  have c3 := Sl5.ConcatB a (by omega) (by omega) 14
  have c4 := Sum a.flatten (by omega)
  have c5 := Sl2.CloneBB (b.map bV) (fun e he => by obtain ⟨_, _, rfl⟩ := List.mem_map.1 he; rfl) (by rw [List.length_map]; omega) 37
  have lx : (b ++ [a.flatten]).length = b.length + 1 := by simp
  obtain ⟨X, c6, x1, x2⟩ := EachL (b ++ [a.flatten]) (by omega) (fun t h => by
    rcases List.mem_append.1 h with h | h
    · exact mb t h
    · rw [List.mem_singleton] at h; subst h; omega)
  have e1 : [b, a, [[]]].flatten = b ++ (a ++ [[]]) := by simp
  have l0 : (b ++ (a ++ [[]])).length = b.length + a.length + 1 := by simp only [List.length_append, List.length_cons, List.length_nil]; omega
  have c7 := Sl6.ConcatBB [b, a, [[]]] (show 3 < 1073741824 by omega) (by rw [e1, l0]; omega) 47
  rw [e1] at c7
  obtain ⟨Y, c8, y1, y2⟩ := EachL (b ++ (a ++ [[]])) (by rw [l0]; omega) (fun t h => by
    rcases List.mem_append.1 h with h | h
    · exact mb t h
    · rcases List.mem_append.1 h with h | h
      · exact ma t h
      · rw [List.mem_singleton] at h; subst h; decide)
  have e2 : (b ++ [a.flatten]).flatten = (b ++ (a ++ [[]])).flatten := by simp
  have x3 := x2 (by omega)
  have y3 := y2 (by omega)
  rw [e2] at x3
  clear x2 y2
  rw [lx] at x1
  rw [l0] at y1
  have s0 := sumB_len a.flatten
  have s1 := sumB_len (b ++ (a ++ [[]])).flatten
  generalize sumB (b ++ (a ++ [[]])).flatten = w at *
  generalize sumB a.flatten = v at *
  have xy : X.getD (X.length - 1) default = Y.getD (Y.length - 1) default := x3.trans y3.symm
  have kx : (X.getD (X.length - 1) default).length = 32 := by rw [x3]; exact s1
  have ky : (Y.getD (Y.length - 1) default).length = 32 := by rw [y3]; exact s1
  generalize hfl : b ++ (a ++ [[]]) = q at *
  clear ma mb e1 e2 hfl x3 y3
  rcases Nat.eq_zero_or_pos a.length with h0 | h0
  · clear z2
    refine LFx.mk' tt Try.func5 rfl rfl rfl (by kernel_rfl) rfl rfl fun F => ?_
    exact wk trueW trueW trueW
  · have z3 := z2 h0
    have kz : (Z.getD (Z.length - 1) default).length = 32 := by rw [z3]; exact s0
    clear z2
    refine LFx.mk' tt Try.func5 rfl rfl rfl (by kernel_rfl) rfl rfl fun F => ?_
    exact wk trueW trueW trueW
end Sp
end Lf
end Go.Proofs.Ytgeccggkdgpkiaa

/- Package pack: lists are read; every item. -/
import Derived.Test.YtgeccggkdgpkiaaPk6
namespace Go.Proofs.Ytgeccggkdgpkiaa
open Go.RowKit Rg Wm Ar
set_option maxRecDepth 100000
namespace Lf
open Pk
theorem map_none {α β : Type} {f : α → β} {o : Option α} (h : o = none) : o.map f = none := by rw [h]; rfl
namespace Pw
theorem item_nil : ItemC [] := by
  unfold ItemC
  rw [rd]
  refine ⟨fun k r h => (by cases h), fun _ => ⟨[], item_no ?_⟩⟩
  have p1 := take_no [] 1 (by decide) (by decide)
  have hp1 : PanIn 1 1 := ⟨trivial⟩
  refine LM.enter tt Try.func48 rfl rfl rfl (by kernel_rfl) rfl rfl rfl (fun o mo h => by rw [h.2]; rfl) fun F _ => ?_
  exact wk trueW trueW trueW
set_option maxHeartbeats 4000000 in
theorem item_list (c : UInt8) (l : List UInt8) (hl : l.length < 1073741000) (h2 : ¬ c.toNat < 192) (ih : ∀ b : List UInt8, b.length ≤ l.length → ItemC b) : ItemC (c :: l) := by
  have c1 := take_ok (c :: l) 1 (by simp) (by simp; omega)
  rw [show (c :: l).take 1 = [c] from rfl, show (c :: l).drop 1 = l from rfl] at c1
  have hc0 : ([c].getD 0 default).toNat = c.toNat := rfl
  have hcl := c.toNat_lt
  have h1 : ¬ c.toNat < 128 := by omega
  obtain ⟨k1, k2⟩ := length_ c 192 (.inr rfl) (by show 192 ≤ _; omega) (by show _ < 192 + 64; omega) l (by omega) 1000
  rw [show (192 : UInt8).toNat = 192 from rfl] at k1 k2
  have e : rd (c :: l) = match Pk.part c.toNat 192 l with
      | none => none
      | some (b, r) => match rdL b with
        | none => none
        | some ks => some (.mk true [] ks, r) := by
    rw [rd, if_neg h1, if_neg h2]
    split
    · rename_i hp; rw [hp]
    · rename_i b r hp; rw [hp]; rfl
  unfold ItemC
  rw [e]
  unfold Pk.part
  clear e
  cases hln : lenR c.toNat 192 l with
  | none =>
    obtain ⟨r, p1⟩ := k2 hln
    refine ⟨fun k r h => (by cases h), fun _ => ⟨r, item_no ?_⟩⟩
    have hp1 : PanIn 9 3 := ⟨trivial⟩
    clear k1 k2 ih
    refine LM.enter tt Try.func48 rfl rfl rfl (by kernel_rfl) rfl rfl rfl (fun o mo h => by rw [h.2]; rfl) fun F _ => ?_
    exact wk trueW trueW trueW
  | some x =>
    obtain ⟨n, r1⟩ := x
    have c2 := k1 n r1 hln
    have hr1 := lenR_spec hln
    clear k1 k2 hln
    simp only []
    unfold take?
    by_cases hn : n ≤ r1.length
    · rw [if_pos hn]
      simp only []
      have c3 := take_ok r1 n hn (by omega)
      have hlb : (r1.take n).length ≤ l.length := by rw [List.length_take]; omega
      generalize r1.take n = b at *
      generalize r1.drop n = r at *
      clear hn
      have hbr := itC_bare
      cases hL : rdL b with
      | none =>
        refine ⟨fun k r h => (by cases h), fun _ => ⟨r, item_no ?_⟩⟩
        refine LM.enter tt Try.func48 rfl rfl rfl (by kernel_rfl) rfl rfl rfl (fun o mo h => by rw [h.2]; rfl) fun F _ => ?_
        refine wk ?_ trueW trueW
        refine LC.nilcell 6 2 55 48 3 rfl rfl rfl (by decide) rfl ?_
        refine LC.loop3 (fun b' ks => [(0, .p 1000 0), (2, .p 2 0), (5, .p 5 0), (6, .p 6 0)]) (fun b' ks => [(1000, .b [bV r]), (2, .b [.k (.bool false), .nil, .nil]), (5, .b [bV b']), (6, .b [.k (.bool true), .nil, .s (some 55) (ks.map itV)]), (55, .r 48 3 ks.length)]) (fun b' ks => b'.length + ks.length ≤ l.length ∧ rdL b' = none) ((·.length)) (b) ([]) ⟨by simp; omega, hL⟩ ⟨rfl, rfl, rfl, rfl, trivial⟩ ⟨rfl, rfl, rfl, rfl, rfl, trivial⟩ rfl (by first | exact rfl | (simp only [V.cells, refsE, refsM, V.refs, V.refs.go, V.pure, V.pure.go, pure_mapq, pure_mapb, pure_mapu, refs_mapq, refs_mapb, refs_mapu, refs_append, Bool.and_true, Bool.true_and, Bool.and_self] <;> exact rfl) | (simp only [V.cells, refsE, refsM, V.refs, V.refs.go, V.pure, V.pure.go, pure_mapq, pure_mapb, pure_mapu, refs_mapq, refs_mapb, refs_mapu, refs_append, Bool.and_true, Bool.true_and, Bool.and_self, hrf] <;> exact rfl) | (simp only [V.cells, refsE, refsM, V.refs, V.refs.go, V.pure, V.pure.go, pure_mapq, pure_mapb, pure_mapu, refs_mapq, refs_mapb, refs_mapu, refs_append, Bool.and_true, Bool.true_and, Bool.and_self, hrf, hrg] <;> exact rfl) | exact lz) (by first | exact rfl | (simp only [V.cells, refsE, refsM, V.refs, V.refs.go, V.pure, V.pure.go, pure_mapq, pure_mapb, pure_mapu, refs_mapq, refs_mapb, refs_mapu, refs_append, Bool.and_true, Bool.true_and, Bool.and_self] <;> exact rfl) | (simp only [V.cells, refsE, refsM, V.refs, V.refs.go, V.pure, V.pure.go, pure_mapq, pure_mapb, pure_mapu, refs_mapq, refs_mapb, refs_mapu, refs_append, Bool.and_true, Bool.true_and, Bool.and_self, hrf] <;> exact rfl) | (simp only [V.cells, refsE, refsM, V.refs, V.refs.go, V.pure, V.pure.go, pure_mapq, pure_mapb, pure_mapu, refs_mapq, refs_mapb, refs_mapu, refs_append, Bool.and_true, Bool.true_and, Bool.and_self, hrf, hrg] <;> exact rfl) | exact lz) ?_
        rintro b' ks ⟨hlen, hrd⟩
        have hne : 0 < b'.length := by
          rcases Nat.eq_zero_or_pos b'.length with h0 | h0
          · rw [List.eq_nil_of_length_eq_zero h0, rdL] at hrd
            simp at hrd
          · exact h0
        obtain ⟨q1, q2⟩ := ih b' (by omega)
        cases hb : rd b' with
        | none =>
          obtain ⟨r2, p1⟩ := q2 hb
          have hq1 : PanInD 12 2 [0, 1, 5] := ⟨trivial⟩
          have hrf := itC_refs
          clear q1 q2 hb hrd hL ih
          exact wk trueW trueW trueW
        | some y =>
          obtain ⟨k, r2⟩ := y
          have c4 := q1 k r2 hb
          have hlt := rd_len hb
          have hok : r2.length + (ks ++ [k]).length ≤ l.length ∧ rdL r2 = none := ⟨by simp; omega, by
            rw [rdL_cons hb] at hrd
            simpa using hrd⟩
          have hk3 := itC_len k
          have hrf := itC_refs
          have hsz : ∀ e ∈ ks.map itV, e.cells.length = 3 := fun e he => by obtain ⟨a, _, rfl⟩ := List.mem_map.1 he; exact itC_len a
          clear q1 q2 hb hrd hL ih
          exact wk trueW trueW trueW
      | some ks0 =>
        refine ⟨fun k r h => ?_, fun h => (by cases h)⟩
        cases h
        refine item_ok (itV_refs _) ?_
        rw [itV_true]
        refine LM.enter tt Try.func48 rfl rfl rfl (by kernel_rfl) rfl rfl rfl (fun o mo h => by rw [h.2]; rfl) fun F _ => ?_
        refine wk ?_ trueW trueW
        refine LC.nilcell 6 2 55 48 3 rfl rfl rfl (by decide) rfl ?_
        refine LC.loop3 (fun b' ks => [(0, .p 1000 0), (2, .p 2 0), (5, .p 5 0), (6, .p 6 0)]) (fun b' ks => [(1000, .b [bV r]), (2, .b [.k (.bool false), .nil, .nil]), (5, .b [bV b']), (6, .b [.k (.bool true), .nil, .s (some 55) (ks.map itV)]), (55, .r 48 3 ks.length)]) (fun b' ks => b'.length + ks.length ≤ l.length ∧ (rdL b').map (ks ++ ·) = some ks0) ((·.length)) (b) ([]) ⟨by simp; omega, by rw [hL]; rfl⟩ ⟨rfl, rfl, rfl, rfl, trivial⟩ ⟨rfl, rfl, rfl, rfl, rfl, trivial⟩ rfl (by first | exact rfl | (simp only [V.cells, refsE, refsM, V.refs, V.refs.go, V.pure, V.pure.go, pure_mapq, pure_mapb, pure_mapu, refs_mapq, refs_mapb, refs_mapu, refs_append, Bool.and_true, Bool.true_and, Bool.and_self] <;> exact rfl) | (simp only [V.cells, refsE, refsM, V.refs, V.refs.go, V.pure, V.pure.go, pure_mapq, pure_mapb, pure_mapu, refs_mapq, refs_mapb, refs_mapu, refs_append, Bool.and_true, Bool.true_and, Bool.and_self, hrf] <;> exact rfl) | (simp only [V.cells, refsE, refsM, V.refs, V.refs.go, V.pure, V.pure.go, pure_mapq, pure_mapb, pure_mapu, refs_mapq, refs_mapb, refs_mapu, refs_append, Bool.and_true, Bool.true_and, Bool.and_self, hrf, hrg] <;> exact rfl) | exact lz) (by first | exact rfl | (simp only [V.cells, refsE, refsM, V.refs, V.refs.go, V.pure, V.pure.go, pure_mapq, pure_mapb, pure_mapu, refs_mapq, refs_mapb, refs_mapu, refs_append, Bool.and_true, Bool.true_and, Bool.and_self] <;> exact rfl) | (simp only [V.cells, refsE, refsM, V.refs, V.refs.go, V.pure, V.pure.go, pure_mapq, pure_mapb, pure_mapu, refs_mapq, refs_mapb, refs_mapu, refs_append, Bool.and_true, Bool.true_and, Bool.and_self, hrf] <;> exact rfl) | (simp only [V.cells, refsE, refsM, V.refs, V.refs.go, V.pure, V.pure.go, pure_mapq, pure_mapb, pure_mapu, refs_mapq, refs_mapb, refs_mapu, refs_append, Bool.and_true, Bool.true_and, Bool.and_self, hrf, hrg] <;> exact rfl) | exact lz) ?_
        rintro b' ks ⟨hlen, hrd⟩
        rcases Nat.eq_zero_or_pos b'.length with h0 | h0
        · have hb0 : b' = [] := List.eq_nil_of_length_eq_zero h0
          subst hb0
          rw [rdL] at hrd
          simp at hrd
          subst hrd
          clear ih hL hlb
          have hrf := itC_refs
          exact wk trueW trueW trueW
        · obtain ⟨q1, q2⟩ := ih b' (by omega)
          cases hb : rd b' with
          | none =>
            exfalso
            rw [rdL_none (fun e => by subst e; simp at h0) hb] at hrd
            cases hrd
          | some y =>
            obtain ⟨k, r2⟩ := y
            have c4 := q1 k r2 hb
            have hlt := rd_len hb
            have hok : r2.length + (ks ++ [k]).length ≤ l.length ∧ (rdL r2).map ((ks ++ [k]) ++ ·) = some ks0 := ⟨by simp; omega, by
              rw [rdL_cons hb, Option.map_map] at hrd
              rw [← hrd]
              congr 1
              funext z
              simp⟩
            have hk3 := itC_len k
            have hrf := itC_refs
            have hsz : ∀ e ∈ ks.map itV, e.cells.length = 3 := fun e he => by obtain ⟨a, _, rfl⟩ := List.mem_map.1 he; exact itC_len a
            clear q1 q2 hb hrd hL ih
            exact wk trueW trueW trueW
    · rw [if_neg hn]
      have p1 := take_no r1 n (by omega) (by omega)
      refine ⟨fun k r h => (by cases h), fun _ => ⟨r1, item_no ?_⟩⟩
      have hp1 : PanIn 9 4 := ⟨trivial⟩
      clear ih
      refine LM.enter tt Try.func48 rfl rfl rfl (by kernel_rfl) rfl rfl rfl (fun o mo h => by rw [h.2]; rfl) fun F _ => ?_
      exact wk trueW trueW trueW
theorem item_all : ∀ (n : Nat) (l : List UInt8), l.length ≤ n → n < 1073741000 → ItemC l := by
  intro n
  induction n with
  | zero =>
    intro l hl _
    have : l = [] := List.eq_nil_of_length_eq_zero (by omega)
    subst this
    exact item_nil
  | succ n ih =>
    intro l hl hn
    cases l with
    | nil => exact item_nil
    | cons c l =>
      have hl' : l.length ≤ n := by simpa using hl
      by_cases h2 : c.toNat < 192
      · exact item_flat c l (by omega) h2
      · exact item_list c l (by omega) h2 fun b hb => ih b (by omega) (by omega)
end Pw
end Lf
end Go.Proofs.Ytgeccggkdgpkiaa

/- A part of the proof: texts joined. -/
import Derived.Test.YtgjoecocahpfhaaQ21c393b4
namespace Go.Proofs.Ytgjoecocahpfhaa
open Go.RowKit Rg Rp Wm Ar
set_option linter.unusedVariables false
set_option maxRecDepth 100000
namespace Lf
open Pk
namespace Cm
open Sq
theorem at_mem {l : List Hdr} {x : Hdr} (h : x ∈ l) : ∃ j, j < l.length ∧ l.getD j default = x := by
  obtain ⟨j, hj, e⟩ := List.mem_iff_getElem.1 h
  exact ⟨j, hj, by rw [List.getD_eq_getElem?_getD, List.getElem?_eq_getElem hj]; exact e⟩
theorem order_ {first : Hdr} {headers other l l' : List Hdr} (hk : ∀ x ∈ first :: headers, x.ok) (hm : ∀ x, x ∈ other ↔ x ∈ headers) (h : LineOf fS (first :: headers) l) (h' : LineOf fS (first :: other) l') : l = l' ∨ Clashes ((headers ++ [first]).map hdrB) := by
  obtain ⟨M, b, hM, hb, hp⟩ := h.ex
  obtain ⟨M', b', hM', hb', hp'⟩ := h'.ex
  have key : ∀ {u v : List Hdr}, (∀ x ∈ u, x ∈ v) → ∀ i, 1 ≤ i → i < (first :: u).length → ∃ j, 1 ≤ j ∧ j < (first :: v).length ∧ (first :: v).getD j default = (first :: u).getD i default := fun {u v} hs i h1 h2 => by
    match i, h1, h2 with
    | i + 1, _, h2 =>
      rw [List.length_cons] at h2
      obtain ⟨j, hj, e⟩ := at_mem (hs _ (mem_at (all := u) (i := i) (by omega)))
      exact ⟨j + 1, by omega, by rw [List.length_cons]; omega, e⟩
  rcases Ch.order (fun a b => Cp.less_asym) hM hM' hb hb' hp hp' rfl (key fun x hx => (hm x).2 hx) (key fun x hx => (hm x).1 hx) with e | ⟨i, j, hi, hj, hne, hs⟩
  · exact .inl e
  · right
    have in_ : ∀ x ∈ first :: headers, hdrB x ∈ (headers ++ [first]).map hdrB := fun x hx => List.mem_map_of_mem (by
      rcases List.mem_cons.1 hx with rfl | hx
      · simp
      · simp [hx])
    refine ⟨_, in_ _ (mem_at hi), _, in_ _ (mem_at hj), hs, fun e => hne (hdrB_inj (hk _ (mem_at hi)) e)⟩
theorem cut_mem {α : Type} {headers : List α} {t : Nat} (x : α) : x ∈ [headers.reverse.drop t, headers.reverse.take t, headers.take t].flatten ↔ x ∈ headers := by
  simp only [List.flatten_cons, List.flatten_nil, List.append_nil, List.mem_append]
  constructor
  · rintro (h | h | h)
    · exact List.mem_reverse.1 (List.mem_of_mem_drop h)
    · exact List.mem_reverse.1 (List.mem_of_mem_take h)
    · exact List.mem_of_mem_take h
  · intro h
    have : x ∈ headers.reverse.take t ++ headers.reverse.drop t := by rw [List.take_append_drop]; exact List.mem_reverse.2 h
    rcases List.mem_append.1 this with h | h
    · exact .inr (.inl h)
    · exact .inl h
set_option maxHeartbeats 8000000 in
theorem Order_0 (first : Hdr) (h : ∀ x ∈ [first], x.ok) (turn : Int) (ht : -9223372036854775808 ≤ turn ∧ turn < 9223372036854775808) : LF Try.prog 7 [hdV first, .s none [], .k (.int .i64 turn)] (fun _ => .k (.bool true)) none := by
  have hrf := hdrC_refs
  have hcv := hdr_cv
  have hbr := hdV_bare
  have c1 := alive21_
  have c2 := fun k => CloneH [] (fun e he => (List.not_mem_nil he).elim) (by decide) k
  have c3 := Reverse0
  obtain ⟨l, hlo, hlk, c4⟩ := Line_ first [] h (by decide)
  have hll : l.length < 6000000 := by
    obtain ⟨M, b, hM, hb, hp⟩ := hlo.ex
    have := pth_len hM hp
    rw [List.length_singleton] at this
    omega
  have c5 := SameH_ l l hlk hlk (by omega) (by omega)
  rw [decide_eq_true rfl] at c5
  have k0 := h first List.mem_cons_self
  have hx0 := hdrC_len k0
  clear hlo h
  refine LFx.mk' tt Try.func7 rfl rfl rfl (by kernel_rfl) rfl rfl fun F => ?_
  by_cases hp : 0 < turn
  · have hp2 : ¬ turn < 0 := by omega
    exact wk trueW trueW trueW
  · exact wk trueW trueW trueW
set_option maxHeartbeats 8000000 in
theorem Order_1 (first : Hdr) (headers : List Hdr) (h : ∀ x ∈ first :: headers, x.ok) (h0 : 0 < headers.length) (hl : headers.length < 1900000) (turn : Int) (ht : -9223372036854775808 ≤ turn ∧ turn < 9223372036854775808) : LF Try.prog 7 [hdV first, hdsV headers, .k (.int .i64 turn)] (fun _ => .k (.bool true)) none := by
  have hrf := hdrC_refs
  have hcv := hdr_cv
  have hbr := hdV_bare
  have c1 := alive21_
  have hh : ∀ x ∈ headers, x.ok := fun x hx => h x (List.mem_cons_of_mem _ hx)
  have c2 := CloneW headers hh h0 (by omega) 11
  have c3 := Reverse_ headers headers.length hh (by omega) 11
  obtain ⟨l, hlo, hlk, c4⟩ := Line_ first headers h (by omega)
  have hll : l.length < 6000000 := by
    obtain ⟨M, b, hM, hb, hp⟩ := hlo.ex
    have := pth_len hM hp
    rw [List.length_cons] at this
    omega
  have k0 := h first List.mem_cons_self
  have hx0 := hdrC_len k0
  have hml : (headers.map hdV).length = headers.length := List.length_map _
  have hmr : (headers.reverse.map hdV).length = headers.length := by rw [List.length_map, List.length_reverse]
  have hrk : ∀ x ∈ headers.reverse, x.ok := fun x hx => hh x (List.mem_reverse.1 hx)
  -- the end, over whatever the other order is
  have tail : ∀ other : List Hdr, (∀ x, x ∈ other ↔ x ∈ headers) → other.length < 4000000 → ∃ l', (∀ x ∈ l', x.ok) ∧ l'.length < 6000000 ∧ LF Try.prog 13 [hdV first, hdsV other] (fun _ => .s none (l'.map hdV)) none ∧ (l = l' ∨ Clashes ((headers ++ [first]).map hdrB)) := fun other hm hol => by
    have hk' : ∀ x ∈ first :: other, x.ok := fun x hx => by
      rcases List.mem_cons.1 hx with rfl | hx
      · exact k0
      · exact hh x ((hm x).1 hx)
    obtain ⟨l', hlo', hlk', c5⟩ := Line_ first other hk' (by omega)
    refine ⟨l', hlk', ?_, c5, order_ h hm hlo hlo'⟩
    obtain ⟨M, b, hM, hb, hp⟩ := hlo'.ex
    have := pth_len hM hp
    rw [List.length_cons] at this
    omega
  clear hlo h
  have r3 := c3
  clear c3
  refine LFx.mk' tt Try.func7 rfl rfl rfl (by kernel_rfl) rfl rfl fun F => ?_
  refine wk ?_ trueW trueW
  refine DR.cm rfl rfl (Does.callM r3 (by with_reducible exact rfl) rfl (.same _) rfl) ⟨rfl, trivial⟩ rfl ?_
  refine .nl rfl ?_
  show LC _ _ _ _ _ _ _
  refine LC.frztmp 7 11 rfl rfl (by rw [hmr]; omega) (es' := headers.reverse.map hdV) (by rw [List.drop_zero]; exact List.take_of_length_le (by rw [hmr]; exact Nat.le_refl _)) ?_
  clear c2 r3
  have c2 := fun k => CloneK headers hh (by omega) k
  have c9 := fun k => HTexts_ (headers ++ [first]) (fun x hx => by
    rcases List.mem_append.1 hx with hx | hx
    · exact hh x hx
    · obtain rfl := List.mem_singleton.1 hx; exact k0) (by rw [List.length_append, List.length_singleton]; omega) k
  have hzs := hds_sz hh
  have hzr := hds_sz hrk
  have hap : headers.map hdV ++ [hdV first] = (headers ++ [first]).map hdV := by rw [List.map_append]; rfl
  by_cases hin : 0 < turn ∧ turn < ((headers.length : Nat) : Int)
  · obtain ⟨t, rfl⟩ : ∃ t : Nat, turn = ((t : Nat) : Int) := ⟨turn.toNat, by omega⟩
    obtain ⟨hp, hp2⟩ := hin
    have hp3 : t < headers.length := by omega
    have hfl : ([headers.reverse.drop t, headers.reverse.take t, headers.take t] : List (List Hdr)).flatten.length < 4000000 := by
      simp only [List.flatten_cons, List.flatten_nil, List.append_nil, List.length_append, List.length_drop, List.length_take, List.length_reverse]
      omega
    have c8 := fun k => ConcatH [headers.reverse.drop t, headers.reverse.take t, headers.take t] (fun l hl x hx => by
      simp only [List.mem_cons, List.not_mem_nil, or_false] at hl
      rcases hl with rfl | rfl | rfl
      · exact hrk x (List.mem_of_mem_drop hx)
      · exact hrk x (List.mem_of_mem_take hx)
      · exact hh x (List.mem_of_mem_take hx)) (by simp) (by omega) k
    obtain ⟨l', hlk', hll', c5, hor⟩ := tail _ (fun x => cut_mem (headers := headers) (t := t) x) hfl
    generalize ([headers.reverse.drop t, headers.reverse.take t, headers.take t] : List (List Hdr)).flatten = other at *
    clear tail
    have c6 := SameH_ l l' hlk hlk' (by omega) (by omega)
    by_cases e : l = l'
    · rw [decide_eq_true e] at c6
      clear hor e
      exact wk trueW trueW trueW
    · rw [decide_eq_false e] at c6
      have hcl := hor.resolve_left e
      have c7 := (Sr.Clash_ ((headers ++ [first]).map hdrB) (by rw [List.length_map, List.length_append, List.length_singleton]; omega) (fun t ht => by
        obtain ⟨x, hx, rfl⟩ := List.mem_map.1 ht
        have kx : x.ok := by
          rcases List.mem_append.1 hx with hx | hx
          · exact hh x hx
          · obtain rfl := List.mem_singleton.1 hx; exact k0
        have := hdrB_len kx
        omega)).1 hcl
      clear hor e hcl
      exact wk trueW trueW trueW
  · obtain ⟨l', hlk', hll', c5, hor⟩ := tail headers.reverse (fun x => List.mem_reverse) (by rw [List.length_reverse]; omega)
    clear tail
    have c6 := SameH_ l l' hlk hlk' (by omega) (by omega)
    by_cases e : l = l'
    · rw [decide_eq_true e] at c6
      by_cases hp : 0 < turn
      · have hn : ¬ turn < ((headers.length : Nat) : Int) := fun h => hin ⟨hp, h⟩
        clear hin hor e
        exact wk trueW trueW trueW
      · clear hin hor e
        exact wk trueW trueW trueW
    · rw [decide_eq_false e] at c6
      have hcl := hor.resolve_left e
      have c7 := (Sr.Clash_ ((headers ++ [first]).map hdrB) (by rw [List.length_map, List.length_append, List.length_singleton]; omega) (fun t ht => by
        obtain ⟨x, hx, rfl⟩ := List.mem_map.1 ht
        have kx : x.ok := by
          rcases List.mem_append.1 hx with hx | hx
          · exact hh x hx
          · obtain rfl := List.mem_singleton.1 hx; exact k0
        have := hdrB_len kx
        omega)).1 hcl
      by_cases hp : 0 < turn
      · have hn : ¬ turn < ((headers.length : Nat) : Int) := fun h => hin ⟨hp, h⟩
        clear hin hor e hcl
        exact wk trueW trueW trueW
      · clear hin hor e hcl
        exact wk trueW trueW trueW
theorem ChainOrder (first : Hdr) (headers : List Hdr) (h : ∀ x ∈ first :: headers, x.ok) (hl : headers.length < 1900000) (turn : Int) (ht : -9223372036854775808 ≤ turn ∧ turn < 9223372036854775808) : LF Try.prog 7 [hdV first, hdsV headers, .k (.int .i64 turn)] (fun _ => .k (.bool true)) none := by
  match headers, h, hl with
  | [], h, _ => exact Order_0 first h turn ht
  | x :: r, h, hl => exact Order_1 first (x :: r) h (by simp) hl turn ht
end Cm
end Lf
end Go.Proofs.Ytgjoecocahpfhaa

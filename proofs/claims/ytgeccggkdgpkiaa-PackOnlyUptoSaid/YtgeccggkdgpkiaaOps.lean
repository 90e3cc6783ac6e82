/- Operations on slices that are known by what they read: append, conversion to a string, a cut. -/
import Derived.Test.YtgeccggkdgpkiaaRep
import Derived.Test.YtgeccggkdgpkiaaRegion
import Derived.ArgAppend
import Derived.Laws.AppendOwnNone
import Derived.Laws.BytesArg
namespace Go.Proofs.Ytgeccggkdgpkiaa
open Go.RowKit Rp Rg
namespace Ops

/-- What the append law asks of a slice type: t, its element e, the element's cells and bytes. -/
structure El (P : Program) (t e size bytes : Nat) : Prop where
  und : P.underlying t = some (.slice e)
  inf : ∃ i z, P.info? e = some i ∧ i.zero = some z ∧ i.size = size ∧ i.bytes = bytes ∧ z.cells.size = size
  pos : 0 < size

section
variable {P : Program} {t e size bytes : Nat} {w : World} {ops : Array Oper} {Q : Exit → Act → World → Prop} {a : Act} {rest : List Oper} {o : Oper}

/-- append onto a full slice: a new row. -/
theorem grows (hE : El P t e size bytes) (hg : o.guard = none) (s x : Operand) (ho : o.op = .call { callee := .builtin .append, args := #[s, x], argTypes := #[t, t] })
    {n cap m c B B' : Nat} {olds news : List Value} {ao b : Option Addr} (hs : a.eval s = .slice ao n cap) (hS0 : Sl w B' size ao n cap olds) (hx : a.eval x = .slice b m c) (hS : Sl w B size b m c news)
    (h1 : ∀ u ∈ news, u.oneCell' = true) (hm : 0 < m) (hfull : cap < n + m) (hmax : n + m ≤ 140737488355328) (hbytes : (n + m) * bytes ≤ 140737488355328)
    (hK : ∀ v' w', w'.ownsRow w.heap.size e size v' (n + m) (olds ++ news) → Ext w w' → wpList P ops Q rest (a.put o.dst v') w') : wpList P ops Q (o :: rest) a w := by
  obtain ⟨i, z, hi, hz, hsz, hby, hzs⟩ := hE.inf
  obtain ⟨hl0, hnc, _, h00, hm0⟩ := hS0
  obtain ⟨hl, hmc, _, h0, hm1⟩ := hS
  obtain ⟨g, off, rfl, _, hc⟩ := hm1 hm
  refine wpList_append_grows w hg s x t ho e i z size bytes hE.und hi hz hsz hby hzs hE.pos ao n cap olds hs ?_ hl0 ?_ ⟨g, off, none⟩ m c news hx hl (fun j u hj => by rw [Addr.add_lit]; exact hc j u hj) h1 hfull (by simp only [maxLen]; omega) hbytes
    fun v' w' h2 h3 => hK v' w' h2 (Below.grown (Below.refl _ w) h3 (Nat.le_refl _) (by simp))
  · intro h
    refine ⟨?_, h00 h⟩
    rcases Nat.eq_zero_or_pos n with h' | h'
    · exact h'
    · obtain ⟨b', o', hb', _⟩ := hm0 h'
      rw [h] at hb'
      cases hb'
  · intro b' hb' j u hj
    rcases Nat.eq_zero_or_pos n with h' | h'
    · have : olds = [] := List.eq_nil_of_length_eq_zero (by rw [hl0, h', Nat.zero_mul])
      subst this; simp at hj
    · obtain ⟨b2, o2, hb2, _, hc2⟩ := hm0 h'
      rw [hb'] at hb2
      obtain rfl := Option.some.inj hb2
      rw [Addr.add_lit]; exact hc2 j u hj
/-- append onto a row of the call's own, from whatever is read. -/
theorem app (hE : El P t e size bytes) (hg : o.guard = none) (s x : Operand) (ho : o.op = .call { callee := .builtin .append, args := #[s, x], argTypes := #[t, t] })
    {base n m c B : Nat} {v : Value} {xs news : List Value} {b : Option Addr} (hs : a.eval s = v) (hown : w.ownsRow base e size v n xs) (hx : a.eval x = .slice b m c) (hS : Sl w B size b m c news)
    (h1 : ∀ u ∈ news, u.oneCell' = true) (hmax : n + m ≤ 140737488355328) (hbytes : (n + m) * bytes ≤ 140737488355328) (hbase : base ≤ w.heap.size)
    (hK : ∀ v' w', w'.ownsRow base e size v' (n + m) (xs ++ news) → w.grownBy w' v.ownBlock → wpList P ops Q rest (a.put o.dst v') w') : wpList P ops Q (o :: rest) a w := by
  obtain ⟨i, z, hi, hz, hsz, hby, hzs⟩ := hE.inf
  obtain ⟨hl, hmc, _, h0, hm⟩ := hS
  cases b with
  | none =>
    obtain rfl : c = 0 := h0 rfl
    obtain rfl : m = 0 := by omega
    have hnews : news = [] := List.eq_nil_of_length_eq_zero (by simpa using hl)
    subst hnews
    exact wpList_append_own_none hg s x t ho base e i size hE.und hi v n xs hs hown hx (by simpa using hK v w (by simpa using hown) (World.grownBy.refl w _))
  | some ad =>
    refine wpList_append_own w hg s x t ho base e i z size bytes hE.und hi hz hsz hby hzs hE.pos v n xs hs hown ad m c news hx hl (fun j u hu => ?_) h1
      (by simp only [maxLen]; omega) hbytes hbase (fun v' w' h2 h3 _ => hK v' w' h2 h3)
    have hj := (List.getElem?_eq_some_iff.1 hu).1
    have hpos : 0 < m := by
      rcases Nat.eq_zero_or_pos m with h | h
      · subst h; simp at hl; rw [hl] at hj; simp at hj
      · exact h
    obtain ⟨g, off, had, _, hc⟩ := hm hpos
    cases had
    rw [Addr.add_lit]
    exact hc j u hu

/-- What 'x[lo:hi]' of a slice reads. -/
theorem cut_val {B : Nat} {a : Option Addr} {n cap lo hi : Nat} {cs : List Value} (hS : Sl w B size a n cap cs) (h1 : lo ≤ hi) (h2 : hi ≤ n) :
    ∃ a' cap', sliced a lo hi cap size = .slice a' (hi - lo) cap' ∧ Sl w B size a' (hi - lo) cap' ((cs.drop (lo * size)).take ((hi - lo) * size)) := by
  obtain ⟨hl, hn, hm, h0, h⟩ := hS
  refine ⟨if cap = lo then a else a.map (·.add (lo * size)), cap - lo, rfl, ?_, by omega, by omega, ?_, fun hpos => ?_⟩
  · have e1 : (hi - lo) * size + lo * size ≤ n * size := by rw [← Nat.add_mul]; exact Nat.mul_le_mul_right _ (by omega)
    simp only [List.length_take, List.length_drop, hl]
    omega
  · intro hnone
    split at hnone
    · omega
    · cases a with
      | none => have := h0 rfl; omega
      | some _ => simp at hnone
  · obtain ⟨b, o, rfl, hlt, hc⟩ := h (by omega)
    have hcl : ¬ cap = lo := by omega
    refine ⟨b, o + lo * size, by rw [if_neg hcl]; simp [Addr.add_lit], hlt, fun j u hj => ?_⟩
    rw [List.getElem?_take] at hj
    split at hj
    · rw [List.getElem?_drop] at hj
      rw [Nat.add_assoc]
      exact hc _ u hj
    · cases hj

theorem cut_if {B : Nat} {a : Option Addr} {n cap lo hi : Nat} {cs : List Value} (hS : Sl w B size a n cap cs) (h1 : lo ≤ hi) (h2 : hi ≤ n) :
    Sl w B size (if cap = lo then a else a.map (·.add (lo * size))) (hi - lo) (cap - lo) ((cs.drop (lo * size)).take ((hi - lo) * size)) := by
  obtain ⟨a', cap', he, h⟩ := cut_val hS h1 h2
  cases he
  exact h

theorem run_cut (h1 : P.underlying t = some (.slice (P.elem t))) (h2 : (sizeOf (P.elem t)).run P w = .ok size w) {a : Option Addr} {n cap lo hi : Nat} {k1 k2 : IntKind} (hlo : lo ≤ hi) (hhi : hi ≤ cap) :
    (Instr.sliceAt t (.slice a n cap) (some (.int k1 (lo : Int))) (some (.int k2 (hi : Int))) none).run P w = .ok (sliced a lo hi cap size) w := by
  rw [run_sliceAt_slice w t _ _ _ _ h1, run_slice_lh w t a n cap h1 k1 k2 lo hi (by omega) (by omega) (by omega), h2]
  simp [Result.andThen]
theorem run_cut_lo (h1 : P.underlying t = some (.slice (P.elem t))) (h2 : (sizeOf (P.elem t)).run P w = .ok size w) {a : Option Addr} {n cap lo : Nat} {k1 : IntKind} (hlo : lo ≤ n) :
    (Instr.sliceAt t (.slice a n cap) (some (.int k1 (lo : Int))) none none).run P w = .ok (sliced a lo n cap size) w := by
  rw [run_sliceAt_slice w t _ _ _ _ h1, run_slice_l w t a n cap h1 k1 lo (by omega) (by omega), h2]
  simp [Result.andThen]
theorem run_cut_hi (h1 : P.underlying t = some (.slice (P.elem t))) (h2 : (sizeOf (P.elem t)).run P w = .ok size w) {a : Option Addr} {n cap hi : Nat} {k2 : IntKind} (hhi : hi ≤ cap) :
    (Instr.sliceAt t (.slice a n cap) none (some (.int k2 (hi : Int))) none).run P w = .ok (sliced a 0 hi cap size) w := by
  rw [run_sliceAt_slice w t _ _ _ _ h1, run_slice_h w t a n cap h1 k2 hi (by omega) (by omega), h2]
  simp [Result.andThen]

theorem El.elem (hE : El P t e size bytes) : P.underlying t = some (.slice (P.elem t)) := by
  have : P.elem t = e := by simp [Program.elem, hE.und]
  rw [this]; exact hE.und
theorem El.siz (hE : El P t e size bytes) (w : World) : (sizeOf (P.elem t)).run P w = .ok size w := by
  have : P.elem t = e := by simp [Program.elem, hE.und]
  obtain ⟨i, z, hi, _, hs, _⟩ := hE.inf
  rw [this]
  simp [sizeOf, typeInfo, hi, hs]

theorem slice_wp (x : Operand) (lop hop : Option Operand) (hg : o.guard = none) (ho : o.op = .slice t x lop hop none) {v x' : Value} {l' h' : Option Value} (hx : a.eval x = x') (hl : lop.map a.eval = l') (hh : hop.map a.eval = h')
    (hrun : (Instr.sliceAt t x' l' h' none).run P w = .ok v w) (hK : wpList P ops Q rest (a.put o.dst v) w) : wpList P ops Q (o :: rest) a w := by
  refine wpList_plain hg fun K hK' => ?_
  unfold Oper.wp
  simp [execOp, ho, hx, hl, hh, hrun, Result.andThen]
  exact hK' _ _ hK

/-- 'x[lo:]' -/
theorem cutLo (hE : El P t e size bytes) (x l : Operand) (hg : o.guard = none) (ho : o.op = .slice t x (some l) none none) {B n cap lo : Nat} {k : IntKind} {b : Option Addr} {cs : List Value} (hx : a.eval x = .slice b n cap) (hl : a.eval l = .int k (lo : Int))
    (hS : Sl w B size b n cap cs) (hlo : lo ≤ n) (hK : ∀ b' cap', Sl w B size b' (n - lo) cap' (cs.drop (lo * size)) → wpList P ops Q rest (a.put o.dst (.slice b' (n - lo) cap')) w) : wpList P ops Q (o :: rest) a w := by
  obtain ⟨b', cap', he, hS'⟩ := cut_val hS hlo (Nat.le_refl n)
  have e1 : (cs.drop (lo * size)).take ((n - lo) * size) = cs.drop (lo * size) := List.take_of_length_le (by simp [hS.1, Nat.sub_mul])
  rw [e1] at hS'
  refine slice_wp x (some l) none hg ho hx (congrArg some hl) rfl (run_cut_lo hE.elem (hE.siz w) hlo) ?_
  rw [he]
  exact hK b' cap' hS'

/-- 'x[:hi]' -/
theorem cutHi (hE : El P t e size bytes) (x h : Operand) (hg : o.guard = none) (ho : o.op = .slice t x none (some h) none) {B n cap hi : Nat} {k : IntKind} {b : Option Addr} {cs : List Value} (hx : a.eval x = .slice b n cap) (hh : a.eval h = .int k (hi : Int))
    (hS : Sl w B size b n cap cs) (hhi : hi ≤ n) (hK : ∀ b' cap', Sl w B size b' hi cap' (cs.take (hi * size)) → wpList P ops Q rest (a.put o.dst (.slice b' hi cap')) w) : wpList P ops Q (o :: rest) a w := by
  obtain ⟨b', cap', he, hS'⟩ := cut_val hS (Nat.zero_le hi) hhi
  simp only [Nat.zero_mul, List.drop_zero, Nat.sub_zero] at he hS'
  refine slice_wp x none (some h) hg ho hx rfl (congrArg some hh) (run_cut_hi hE.elem (hE.siz w) (Nat.le_trans hhi hS.2.1)) ?_
  rw [he]
  exact hK b' cap' hS'

/-- 'x[lo:hi]' -/
theorem cutLoHi (hE : El P t e size bytes) (x l h : Operand) (hg : o.guard = none) (ho : o.op = .slice t x (some l) (some h) none) {B n cap lo hi : Nat} {k1 k2 : IntKind} {b : Option Addr} {cs : List Value} (hx : a.eval x = .slice b n cap) (hl : a.eval l = .int k1 (lo : Int)) (hh : a.eval h = .int k2 (hi : Int))
    (hS : Sl w B size b n cap cs) (hlo : lo ≤ hi) (hhi : hi ≤ n) (hK : ∀ b' cap', Sl w B size b' (hi - lo) cap' ((cs.drop (lo * size)).take ((hi - lo) * size)) → wpList P ops Q rest (a.put o.dst (.slice b' (hi - lo) cap')) w) : wpList P ops Q (o :: rest) a w := by
  obtain ⟨b', cap', he, hS'⟩ := cut_val hS hlo hhi
  refine slice_wp x (some l) (some h) hg ho hx (congrArg some hl) (congrArg some hh) (run_cut hE.elem (hE.siz w) hlo (Nat.le_trans hhi hS.2.1)) ?_
  rw [he]
  exact hK b' cap' hS'

/-- 'string(b)'. -/
theorem run_str {src dst E B : Nat} (h1 : P.underlying src = some (.slice E)) (h2 : P.underlying E = some (.int .u8)) (h3 : P.underlying dst = some .string) {a : Option Addr} {n cap : Nat} {l : List UInt8}
    (hS : Sl w B 1 a n cap (l.map byteV)) : (convert src dst (.slice a n cap)).run P w = .ok (.string ⟨l.toArray⟩) w := by
  obtain ⟨hl, _, _, h0, h⟩ := hS
  have hln : l.length = n := by simpa using hl
  rcases Nat.eq_zero_or_pos n with hz | hpos
  · have hl0 : l = [] := List.eq_nil_of_length_eq_zero (by omega)
    subst hl0
    subst hz
    cases a with
    | none => exact run_convert_bytes_nil w src E h1 h2 0 cap dst h3
    | some ad =>
      rw [run_convert_bytes_string w src dst E _ 0 cap h1 h2 h3, run_bytesToString w ad 0 cap [] (by simp [loadCells, loadCellsFrom])]
      rfl
  · obtain ⟨b, o, rfl, hlt, hc⟩ := h hpos
    have := run_convert_bytes_arg (P := P) w src E h1 h2 b o n cap (l.map fun x => (x.toNat : Int)) (by simp [hln]) (fun i hi => by
      rw [hc i (byteV l[i]) (by simp [hln, hi])]
      simp [byteV, hln, hi]) dst h3
    rw [this]
    congr 3
    simp only [strOfNums, List.map_map]
    congr 2
    conv => rhs; rw [← List.map_id l]
    refine List.map_congr_left fun x _ => ?_
    simp
end
end Ops
end Go.Proofs.Ytgeccggkdgpkiaa

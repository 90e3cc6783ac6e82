/- Lists of cells read through a slice value: the words that the seat's contracts use. -/
import Derived.Test.YtgeccggkdgpkiaaFrame
namespace Go.Proofs.Ytgeccggkdgpkiaa
open Go.RowKit
namespace Rp

/-- A byte as a cell. -/
def byteV (x : UInt8) : Value := .int .u8 (x.toNat : Int)

theorem take_one {α : Type} (l : List α) (m : Nat) (h : m < l.length) : l.take (m + 1) = l.take m ++ [l[m]] := List.take_succ_eq_append_getElem h
theorem take_two {α : Type} (l : List α) (m : Nat) (h : m + 1 < l.length) : l.take (m + 2) = l.take m ++ [l[m], l[m + 1]] := by
  rw [List.take_succ_eq_append_getElem h, List.take_succ_eq_append_getElem (by omega), List.append_assoc]
  rfl

/-- A slice's length, for a loop's measure. -/
def sln : Value → Nat
  | .slice _ n _ => n
  | _ => 0

/-- The slice '.slice a n cap' reads 'cs' (n elements of 'size' cells each), from a block below 'B'. -/
def Sl (w : World) (B size : Nat) (a : Option Addr) (n cap : Nat) (cs : List Value) : Prop :=
  cs.length = n * size ∧ n ≤ cap ∧ cap ≤ maxLen ∧ (a = none → cap = 0) ∧
  (0 < n → ∃ b o, a = some ⟨b, o, none⟩ ∧ b < B ∧ ∀ j u, cs[j]? = some u → w.cell? ⟨b, o + j, none⟩ = some u)

theorem Sl.mono {w w' : World} {B B' size : Nat} {a : Option Addr} {n cap : Nat} {cs : List Value} (h : Sl w B size a n cap cs) (hb : Below B w w') (hB : B ≤ B') : Sl w' B' size a n cap cs := by
  obtain ⟨h1, h2, h3, h0, h4⟩ := h
  refine ⟨h1, h2, h3, h0, fun hn => ?_⟩
  obtain ⟨b, o, ha, hlt, hc⟩ := h4 hn
  exact ⟨b, o, ha, by omega, fun j u hj => by rw [hb.cell (p := ⟨b, o + j, none⟩) hlt]; exact hc j u hj⟩

theorem Sl.later {w w' : World} {B size n cap : Nat} {a : Option Addr} {cs : List Value} (h : Sl w B size a n cap cs) (hb : Below B w w') : Sl w' B size a n cap cs := h.mono hb (Nat.le_refl _)

theorem Sl.len {α : Type} {f : α → Value} {w : World} {B n cap : Nat} {a : Option Addr} {l : List α} (h : Sl w B 1 a n cap (l.map f)) : l.length = n := by simpa using h.1

theorem Sl.take {w : World} {B size : Nat} {a : Option Addr} {n cap k : Nat} {cs : List Value} (h : Sl w B size a n cap cs) (hk : k ≤ n) : Sl w B size a k cap (cs.take (k * size)) := by
  obtain ⟨h1, h2, h3, h0, h4⟩ := h
  refine ⟨by simp [h1, Nat.min_eq_left (Nat.mul_le_mul_right size hk)], by omega, h3, h0, fun hn => ?_⟩
  obtain ⟨b, o, ha, hlt, hc⟩ := h4 (by omega)
  refine ⟨b, o, ha, hlt, fun j u hj => ?_⟩
  rw [List.getElem?_take] at hj
  split at hj
  · exact hc j u hj
  · cases hj

/-- Where an element is read there is an address. -/
theorem Sl.at {w : World} {B size : Nat} {a : Option Addr} {n cap : Nat} {cs : List Value} (h : Sl w B size a n cap cs) {i : Nat} (hi : i < n) :
    ∃ b o, a = some ⟨b, o, none⟩ ∧ b < B ∧ ∀ j u, cs[j]? = some u → w.cell? ⟨b, o + j, none⟩ = some u := h.2.2.2.2 (by omega)

/-- One cell. -/
theorem Sl.cell {w : World} {B n cap : Nat} {a : Option Addr} {l : List UInt8} (h : Sl w B 1 a n cap (l.map byteV)) {i : Nat} (hi : i < l.length) :
    ∃ b o, a = some ⟨b, o, none⟩ ∧ b < B ∧ w.cell? ⟨b, o + i, none⟩ = some (.int .u8 (l[i].toNat : Int)) := by
  obtain ⟨b, o, ha, hlt, hc⟩ := h.at (i := i) (by have := h.len; omega)
  exact ⟨b, o, ha, hlt, hc i _ (by simp [hi, byteV])⟩

theorem Sl.of_own {w : World} {base e size : Nat} {v : Value} {n : Nat} {xs : List Value} (h : w.ownsRow base e size v n xs) :
    ∃ a cap, v = .slice a n cap ∧ Sl w w.heap.size size a n cap xs := by
  have hlt := h.lt
  have hcells := @World.ownsRow.cells w base e size v n xs h
  obtain ⟨h1, h2⟩ := h
  rcases h2 with ⟨rfl, rfl⟩ | ⟨g, cap, cur, rfl, hb, hg, hn, hm, hs, ht⟩
  · exact ⟨none, 0, rfl, h1, Nat.le_refl _, by simp [maxLen], fun _ => rfl, fun h => by omega⟩
  · refine ⟨some ⟨g, 0, none⟩, cap, rfl, h1, hn, hm, (fun h => by cases h), fun _ => ⟨g, 0, rfl, (hlt g rfl).2, fun j u hj => ?_⟩⟩
    have := hcells (g := g) rfl j u hj
    rw [Addr.add_lit] at this
    exact this

/-- A block of the call's own that was just written out. -/
theorem Sl.lit' (w : World) (cs : Array Value) (e n size k B : Nat) (hk : k = w.heap.size) (hB : k < B) (hn : cs.size = n * size) (hm : n ≤ maxLen) :
    Sl (w.alloc (.cells cs e)) B size (some ⟨k, 0, none⟩) n n cs.toList := by
  subst hk
  exact ⟨by simpa using hn, Nat.le_refl _, hm, (fun h => by cases h), fun _ => ⟨w.heap.size, 0, rfl, hB, fun j u hj => by
    rw [cell_of_row (w.alloc (.cells cs e)) w.heap.size (0 + j) cs e (0, 0) (heap_alloc_new w _), Nat.zero_add]
    simpa using hj⟩⟩
theorem Sl.lit (w : World) (cs : Array Value) (e n size : Nat) (hn : cs.size = n * size) (hm : n ≤ maxLen) :
    Sl (w.alloc (.cells cs e)) (w.heap.size + 1) size (some ⟨w.heap.size, 0, none⟩) n n cs.toList := Sl.lit' w cs e n size _ _ rfl (Nat.lt_succ_self _) hn hm

theorem own_pos {w : World} {base e size : Nat} {v : Value} {n : Nat} {xs : List Value} (h : w.ownsRow base e size v n xs) (hn : 0 < n) :
    ∃ g cap, v = .slice (some ⟨g, 0, none⟩) n cap ∧ n ≤ cap ∧ cap ≤ maxLen ∧ base ≤ g ∧ g < w.heap.size ∧ ∀ j u, xs[j]? = some u → w.cell? ⟨g, j, none⟩ = some u := by
  have hlt := h.lt
  have hcells := @World.ownsRow.cells w base e size v n xs h
  rcases h.2 with ⟨_, rfl⟩ | ⟨g, cap, cur, rfl, hb, hg, hc, hm, _⟩
  · omega
  · refine ⟨g, cap, rfl, hc, hm, hb, (hlt g rfl).2, fun j u hj => ?_⟩
    have := hcells (g := g) rfl j u hj
    rw [Addr.add_lit] at this
    simpa using this

theorem own_lit' (w : World) (cs : Array Value) (e n size k base : Nat) (hk : k = w.heap.size) (hb : base ≤ k) (hn : cs.size = n * size) (hm : n ≤ maxLen) :
    (w.alloc (.cells cs e)).ownsRow base e size (.slice (some ⟨k, 0, none⟩) n n) n cs.toList := by
  subst hk
  exact World.ownsRow_lit w cs n hb hm hn
theorem _root_.Go.World.grownBy.row {w w' : World} {r k : Option Nat} (h : w.grownBy w' r) (e : r = k) : w.grownBy w' k := e ▸ h

theorem _root_.Go.World.ownsRow.base {w : World} {base base' e size : Nat} {v : Value} {n : Nat} {xs : List Value} (h : w.ownsRow base e size v n xs) (hb : base' ≤ base) : w.ownsRow base' e size v n xs := by
  refine ⟨h.1, ?_⟩
  rcases h.2 with hn | ⟨g, cap, cur, rfl, hg, r⟩
  · exact .inl hn
  · exact .inr ⟨g, cap, cur, rfl, by omega, r⟩

/-- Into a later world, every block that was there kept. -/
theorem Sl.lt {w w' : World} {size n cap : Nat} {a : Option Addr} {cs : List Value} (h : Sl w w.heap.size size a n cap cs) (hx : Below w.heap.size w w') : Sl w' w'.heap.size size a n cap cs := h.mono hx hx.size

section
open Go.ChangeShapes Go.WideShapes
variable {H : Type} {enc : TypeId × Value → H} {P : Program}

theorem bulk_one (d : DataW H) : 1 ≤ Rows.uptoBulk d := by
  cases d with
  | lit l => cases l <;> simp [Rows.uptoBulk]
  | _ => simp [Rows.uptoBulk]
theorem bulk_len (l : List (DataW H)) : l.length ≤ Rows.uptoBulkAll l := by
  induction l with
  | nil => simp [Rows.uptoBulkAll]
  | cons x r ih => have := bulk_one x; simp only [Rows.uptoBulkAll, List.length_cons]; omega

/-- A []byte that came in. -/
theorem open_bytes {t e base : Nat} {W : World} {v : Value} {d : DataW H} {ps : List MemPlace} (ht : P.underlying t = some (.slice e)) (he : P.underlying e = some (.int .u8)) (hc : P.cellsOf e = 1)
    (hok : Value.okWide P W .any base t v) (h : DataW.Trod enc P W 0 (fun _ => true) true t v d ps) :
    ∃ (a : Option Addr) (n cap : Nat) (l : List UInt8), v = .slice a n cap ∧ Sl W W.heap.size 1 a n cap (l.map byteV) ∧ n + 1 ≤ Rows.uptoBulk d := by
  obtain ⟨a0, n0, c0, rfl⟩ := okWide_slice ht hok
  obtain ⟨fuel, hf⟩ := h
  rcases open_ints ht he hc hf with ⟨hcs, hx⟩ | ⟨a, len, cap, zs, hcs, _, hl, hm, hz, hx, hcell, hwz⟩
  · simp [Value.cells] at hcs
    obtain ⟨rfl, rfl, rfl⟩ := hcs
    cases hx
    exact ⟨none, 0, 0, [], rfl, ⟨rfl, Nat.le_refl _, by simp [maxLen], fun _ => rfl, fun h => by omega⟩, by simp [Rows.uptoBulk]⟩
  · simp [Value.cells] at hcs
    obtain ⟨rfl, rfl, rfl⟩ := hcs
    cases hx
    have hzl : zs.length = c0 := by simpa using hz
    have hb : ∀ i (h : i < zs.length), byteV (UInt8.ofNat zs[i].toNat) = .int .u8 zs[i] := fun i h => by
      have hw := hwz _ (List.getElem_mem h)
      simp [Lit.wf, IntKind.min, IntKind.max, IntKind.signed, IntKind.bits] at hw
      simp only [byteV]
      congr 1
      have e : (UInt8.ofNat zs[i].toNat).toNat = zs[i].toNat := UInt8.toNat_ofNat_of_lt (by show _ < 256; omega)
      rw [e]
      omega
    refine ⟨some a, n0, c0, (zs.take n0).map fun z => UInt8.ofNat z.toNat, rfl, ⟨by simp [hzl]; omega, hl, hm, (fun h => by cases h), fun hpos => ?_⟩, ?_⟩
    · have h0 := hcell 0 (by omega)
      have hspot : a.spot = none := by
        simp only [Addr.add] at h0
        simp only [if_true] at h0
        unfold World.cell? at h0
        split at h0
        · split at h0
          · cases h0
          · rename_i hs; simpa using hs
        · cases h0
      refine ⟨a.block, a.off, by cases a; simp_all, ?_, fun j u hj => ?_⟩
      · exact World.block_lt_of_cell? W a (by simpa [Addr.add] using h0)
      · rw [List.map_map, List.getElem?_map] at hj
        obtain ⟨z, hz', rfl⟩ := Option.map_eq_some_iff.1 hj
        obtain ⟨hjl, hz'⟩ := List.getElem?_eq_some_iff.1 hz'
        have hjl' : j < zs.length := by simp at hjl; omega
        have hc1 := hcell j hjl'
        have ha : a.add j = ⟨a.block, a.off + j, none⟩ := by
          obtain ⟨b, o, s⟩ := a
          simp only at hspot
          subst hspot
          exact Addr.add_lit ..
        rw [ha] at hc1
        rw [hc1]
        simp only [List.getElem_take] at hz'
        subst hz'
        simp only [Function.comp]
        rw [hb j hjl']
        simp [List.getD, hjl']
    · have h1 := bulk_len (H := H) (lits .u8 (zs.take n0))
      have h2 : (lits (H := H) .u8 (zs.take n0)).length = n0 := by simp [lits]; omega
      simp only [Rows.uptoBulk]
      omega
end

theorem bytes_oneCell (l : List UInt8) : ∀ u ∈ l.map byteV, u.oneCell' = true := by
  intro u hu
  obtain ⟨x, _, rfl⟩ := List.mem_map.1 hu
  rfl
end Rp
end Go.Proofs.Ytgeccggkdgpkiaa

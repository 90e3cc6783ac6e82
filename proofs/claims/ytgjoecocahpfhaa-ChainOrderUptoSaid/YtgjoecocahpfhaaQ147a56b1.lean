/- A part of the proof: texts joined. -/
import Derived.Test.YtgjoecocahpfhaaQ13c10394
namespace Go.Proofs.Ytgjoecocahpfhaa
open Go.RowKit Rg
set_option linter.unusedVariables false
set_option maxRecDepth 100000
namespace Lf
open Pk
namespace Cm
open Sq
abbrev suV (f : Hdr → List UInt8) (h : Hdr) : V := .a ((f h).map bK)
abbrev sumsV (f : Hdr → List UInt8) (all : List Hdr) : V := .s none (all.map (suV f))
theorem sort_1 (all : List Hdr) (h : ∀ x ∈ all, x.ok) (hl : all.length < 10000000) (D : So.D0) (hD : ∀ x ∈ D, x < all.length) (hDl : D.length ≤ all.length) (g : Nat) (i j : Nat) (hij : i ≠ j) : LM Try.prog 47 [.w i g 1 0 D.length, .f (.func 48) [] [.p j 0]] [(i, .w 3 1 g (D.map iK)), (j, .b [hdsV all])] fun o q => o = .ret (.t []) ∧ q = [(i, .w 3 1 g ((So.sort (nums all) D).map iK)), (j, .b [hdsV all])] :=
  LM.gen [1000, 1001] [i, j] (by simp) (by simpa using hij) rfl (SortStable_ (cmp_ all h (by omega)) (fun m => hds_refs m all) D g (by omega) hD) fun ρ hρ => by
    simp at hρ
    obtain ⟨h1, h2⟩ := hρ
    have hr : ∀ l : List Nat, l.map (V.ren ρ.f ∘ iK) = l.map iK := fun l => List.map_congr_left fun x _ => rfl
    have hh : V.ren ρ.f (hdsV all) = hdsV all := rfl
    refine ⟨?_, ?_, ?_, ?_⟩
    · simp [V.ren, h1, h2, V.ren.go]
    · simp [Mem.ren, M.ren, h1, h2, hr, hh]
    · rfl
    · simp [Mem.ren, M.ren, h1, h2, hr, hh]
theorem vfill_step {place : Nat → Option (Nat × Nat)} {i off size : Nat} {v : V} {done rest : List V} {r : List (Nat × V)} (hp : place i = some (off, size)) (hok : v.ok = true) (hl : v.cells.length = size) (hd : done.length = off) (hr : size ≤ rest.length) : vfill place (done ++ rest) ((i, v) :: r) = vfill place ((done ++ v.cells) ++ rest.drop size) r := by
  have e : splice (done ++ rest) off v.cells = (done ++ v.cells) ++ rest.drop size := by
    unfold splice
    rw [hl, ← hd, List.take_left, List.drop_append]
    simp
  rw [vfill, hp]
  simp only [hok, hl, e]
  have h1 : Nat.beq size size = true := Nat.beq_refl size
  have h2 : Nat.ble (off + size) (done ++ rest).length = true := Nat.ble_eq_true_of_le (by rw [List.length_append]; omega)
  rw [h1, h2]
  rfl
def zerosK : List Z := List.replicate 32 (.int .u8) ++ [.int .u64]
theorem zerosK_len : (zerosK.map Z.v).length = 33 := rfl
theorem link_b (p : LinkT) (hs : p.1.length = 32) : vfill (fun i => [(0, 32), (32, 1)][i]?) (zerosK.map Z.v) [(0, .a (p.1.map bK)), (1, uK p.2)] = some (lkC p) := by
  have h0 := zerosK_len
  generalize zerosK.map Z.v = z at *
  have hl : (p.1.map bK).length = 32 := by rw [List.length_map, hs]
  rw [show z = [] ++ z from rfl, vfill_step (v := .a (p.1.map bK)) (off := 0) (size := 32) rfl rfl hl rfl (by omega),
    vfill_step (off := 32) (size := 1) rfl rfl rfl (by show ([] ++ p.1.map bK).length = 32; rw [List.nil_append, hl]) (by rw [List.length_drop]; omega)]
  simp only [vfill]
  rw [List.drop_of_length_le (by simp only [List.length_drop]; omega), List.append_nil]
  rfl
theorem lk_refs (m : List (Nat × M)) (p : LinkT) : V.refs.go m (lkC p) = true := by
  unfold lkC
  rw [refs_append, refs_mapb]
  rfl
theorem lk_cv (keep : Nat → Bool) (nn : Bool) (p : LinkT) : V.cv.go keep nn (lkC p) = lkC p := by
  have : ∀ l : List UInt8, V.cv.go keep nn (l.map bK ++ [uK p.2]) = l.map bK ++ [uK p.2] := fun l => by
    induction l with
    | nil => rfl
    | cons x r ih => rw [List.map_cons, List.cons_append, V.cv.go, ih]; rfl
  exact this _
theorem lk_bare (p : LinkT) : (lkV p).bare = some (lkV p) := by
  have : ∀ l : List UInt8, V.bare.go (l.map bK ++ [uK p.2]) = some (l.map bK ++ [uK p.2]) := fun l => by
    induction l with
    | nil => rfl
    | cons x r ih => rw [List.map_cons, List.cons_append, V.bare.go, ih]; rfl
  rw [lkV, lkC, V.bare, this]
  rfl
def ord (n : Nat) : List Nat := (List.range n).map (· + 1)
theorem ord_len (n : Nat) : (ord n).length = n := by unfold ord; rw [List.length_map, List.length_range]
theorem ord_succ (n : Nat) : ord (n + 1) = ord n ++ [n + 1] := by unfold ord; rw [List.range_succ, List.map_append]; rfl
theorem ord_mem {n x : Nat} : x ∈ ord n ↔ 1 ≤ x ∧ x ≤ n := by
  unfold ord
  rw [List.mem_map]
  exact ⟨fun ⟨a, h, e⟩ => by have := List.mem_range.1 h; omega, fun h => ⟨x - 1, List.mem_range.2 (by omega), by omega⟩⟩
theorem lkC_len {p : LinkT} (h : LinkOk p) : (lkC p).length = 33 := by
  have := h.h
  simp [lkC, this]
theorem J_no {f : Hdr → List UInt8} {all : List Hdr} {o : List Nat} {t : Nat} {R : RT} {E : ET} (h : J f all o t R E) (ht : t < o.length) (ho : ∀ x ∈ o, 1 ≤ x ∧ x < all.length) (hd : o.Nodup) : R.lookup (o.getD t default) = none := by
  have hg : o.getD t default = o[t] := by rw [List.getD_eq_getElem?_getD, List.getElem?_eq_getElem ht, Option.getD_some]
  refine look_none.2 fun x hx e => ?_
  rcases (h.good.r x hx).1 with h2 | h2
  · have := (ho (o.getD t default) (by rw [hg]; exact List.getElem_mem ht)).1
    omega
  · rw [e] at h2
    obtain ⟨j, hj, e2⟩ := List.getElem_of_mem h2
    rw [List.getElem_take, hg] at e2
    rw [List.length_take] at hj
    exact List.pairwise_iff_getElem.1 (List.nodup_iff_pairwise_ne.1 hd) j t (by omega) ht (by omega) e2
theorem ord_nodup (n : Nat) : (ord n).Nodup := by
  unfold ord
  exact List.Pairwise.map _ (fun a b h e => h (by omega)) List.nodup_range
theorem getD_mem {l : List Nat} {i : Nat} (h : i < l.length) : l.getD i default ∈ l := by
  rw [List.getD_eq_getElem?_getD, List.getElem?_eq_getElem h]
  exact List.getElem_mem h
theorem part_hash {x : Hdr} (k : x.ok) {ti : TI} (hd : ti.d.agg = true) (hz : ti.size = 32) : ti.part (hdrC x) 0 = some (.a (x.parent.map bK)) := by
  unfold TI.part
  rw [hd, hz, hdrC_len k, cond_true]
  show cond (Nat.beq 0 0 && Nat.beq 204 32) _ (cond (Nat.ble (0 + 32) 204) (some (V.a (((hdrC x).drop 0).take 32))) none) = _
  show some (V.a (((hdrC x).drop 0).take 32)) = _
  rw [List.drop_zero, (hqP k).1]
def mksR (f : Hdr → List UInt8) (all : List Hdr) : RT := (runA f all (So.sort (nums all) (ord (all.length - 1))) (stA0 f all)).1
set_option maxHeartbeats 8000000 in
theorem marks_1 (f : Hdr → List UInt8) (hf : ∀ h, (f h).length = 32) (all : List Hdr) (h : ∀ x ∈ all, x.ok) (h0 : 0 < all.length) (hl : all.length < 10000000) : LM Try.prog 33 [hdsV all, sumsV f all] [] fun o m => o = .ret (.mp 35) ∧ m = [(35, .m (rM (mksR f all)))] := by
  have hrf := hdrC_refs
  have hbr : ∀ e ∈ all.map hdV, e.cells.length = 204 := fun e he => by
    obtain ⟨x, hx, rfl⟩ := List.mem_map.1 he
    exact hdrC_len (h x hx)
  refine LM.enter tt Try.func33 rfl rfl rfl (by kernel_rfl) rfl rfl rfl (fun o mo h => by rw [h.2]; rfl) fun F _ => ?_
  refine wk ?_ trueW trueW
  refine LC.loop5 (fun j E (_u2 : Unit) (_u3 : Unit) (_u4 : Unit) => [(0, hdsV all), (1, sumsV f all), (2, .p 2 0), (4, .k (.map none)), (5, .w 19 j 1 0 j), (22, .k (.int .i64 (((List.drop 1 all).length : Nat) : Int))), (23, .k (.int .i64 ((j : Nat) : Int)))]) (fun j E (_u2 : Unit) (_u3 : Unit) (_u4 : Unit) => [(19, .w 3 1 j E), (2, .b [hdsV all])]) (fun j E (_u2 : Unit) (_u3 : Unit) (_u4 : Unit) => j ≤ all.length - 1 ∧ E = (ord j).map iK) ((all.length - ·)) (0) ([]) () () () ⟨by omega, rfl⟩ ⟨rfl, rfl, rfl, rfl, rfl, rfl, rfl, trivial⟩ ⟨rfl, rfl, trivial⟩ rfl rfW rfW ?_
  rintro j E _ _ _ ⟨hj, hE⟩
  have hdl : (List.drop 1 all).length = all.length - 1 := List.length_drop
  have hEl : E.length = j := by rw [hE, List.length_map, ord_len]
  rcases Nat.lt_or_ge j (all.length - 1) with h1 | h1
  · have hok : j + 1 ≤ all.length - 1 ∧ E ++ [iK (j + 1)] = (ord (j + 1)).map iK := ⟨h1, by rw [hE, ord_succ, List.map_append]; rfl⟩
    clear hE
    exact wk trueW trueW trueW
  · obtain rfl : j = all.length - 1 := by omega
    subst hE
    clear hEl h1 hj
    have c1 := sort_1 all h hl (ord (all.length - 1)) (fun x hx => by have := (ord_mem.1 hx).2; omega) (by rw [ord_len]; omega) (all.length - 1) 19 2 (by decide)
    rw [ord_len] at c1
    have hM1 := mapTyM
    have hM2 := mapTyL
    refine wk ?_ trueW trueW
    refine DR.si (es' := rM [(0, 0)]) rfl rfl rfl rfl rfl rfl rfl mapTyM (keyI 0 (by decide)) ⟨fun p hp => by cases hp⟩ ⟨fun p hp => by cases hp⟩ rfl rfl ?_
    have k0 := getD_ok h h0
    have hx1 := hdrC_len k0
    have hx2 := hf (all.getD 0 default)
    have ld1 : ∀ {ti : TI}, ti.d.agg = false → ti.part ((hdrC (all.getD 0 default)).drop 32) 0 = some (uK (all.getD 0 default).number) := num_q k0
    have hb1 := link_b (f (all.getD 0 default), (all.getD 0 default).number) hx2
    have hb2 := lk_cv (fun _ => false) true (f (all.getD 0 default), (all.getD 0 default).number)
    have K0 : LinkOk (f (all.getD 0 default), (all.getD 0 default).number) := ⟨hx2, k0.number⟩
    refine wk ?_ trueW trueW
    refine DR.si (es' := eM [((f (all.getD 0 default), (all.getD 0 default).number), 0)]) rfl rfl rfl rfl rfl rfl rfl mapTyL (keyL _ K0) ⟨fun p hp => by cases hp⟩ ⟨fun p hp => by cases hp⟩ rfl rfl ?_
    clear hx1 hx2 ld1 hb1 hb2 c1 hdl
    obtain ⟨sp, _⟩ := So.sort_spec (nums all) (ord (all.length - 1))
    have hol := sp.length_eq
    rw [ord_len] at hol
    have hom : ∀ x ∈ So.sort (nums all) (ord (all.length - 1)), 1 ≤ x ∧ x < all.length := fun x hx => by
      have := ord_mem.1 (sp.mem_iff.1 hx)
      omega
    have hod : (So.sort (nums all) (ord (all.length - 1))).Nodup := sp.nodup_iff.2 (ord_nodup _)
    have hj0 := J_start (o := So.sort (nums all) (ord (all.length - 1))) h0 K0
    clear sp
    unfold mksR
    generalize So.sort (nums all) (ord (all.length - 1)) = o at *
    refine wk ?_ trueW trueW
    refine LC.loop5 (fun t R E (_u3 : Unit) (_u4 : Unit) => [(0, hdsV all), (1, sumsV f all), (2, .p 2 0), (4, .k (.map none)), (7, .mp 35), (8, .mp 38), (48, .w 19 (all.length - 1) 1 0 (all.length - 1)), (49, .k (.int .i64 (((all.length - 1) : Nat) : Int))), (50, .k (.int .i64 ((t : Nat) : Int)))]) (fun t R E (_u3 : Unit) (_u4 : Unit) => [(38, .m (eM E)), (35, .m (rM R)), (19, .w 3 1 (all.length - 1) (o.map iK)), (2, .b [hdsV all])]) (fun t R E (_u3 : Unit) (_u4 : Unit) => J f all o t R E) ((all.length - ·)) (0) ([(0, 0)]) ([((f (all.getD 0 default), (all.getD 0 default).number), 0)]) () () (hj0) ⟨rfl, rfl, rfl, rfl, rfl, rfl, rfl, rfl, rfl, trivial⟩ ⟨rfl, rfl, rfl, rfl, trivial⟩ rfl rfW rfW ?_
    clear hj0 K0 k0
    rintro t R E _ _ hJ
    rcases Nat.lt_or_ge t o.length with h1 | h1
    · have hi := hom _ (getD_mem h1)
      have k := getD_ok h hi.2
      have K := LinkOk.mk (p := (f (at' all (o.getD t default)), (at' all (o.getD t default)).number)) (hf _) k.number
      have hs := fun S => J_step (S := S) hJ h1 hom hod K
      have hx1 := hdrC_len k
      have hx2 := hf (all.getD (o.getD t default) default)
      have hx3 := k.parent
      have ld1 : ∀ {ti : TI}, ti.d.agg = false → ti.part (hdrC (all.getD (o.getD t default) default)) 32 = some (uK (all.getD (o.getD t default) default).number) := fun hd => part_num hd (hd32 k 0)
      have ld2 : ∀ {ti : TI}, ti.d.agg = true → ti.size = 32 → ti.part (hdrC (all.getD (o.getD t default) default)) 0 = some (.a ((all.getD (o.getD t default) default).parent.map bK)) := fun hd hz => part_hash k hd hz
      unfold stA at hs
      by_cases hz : (all.getD (o.getD t default) default).number = 0
      · have hok := hs _ (if_pos hz)
        clear hs hJ
        exact wk trueW trueW trueW
      · rw [if_neg hz] at hs
        have hn1 : 1 ≤ (all.getD (o.getD t default) default).number := by omega
        have hn2 := k.number
        have hb1 := link_b ((all.getD (o.getD t default) default).parent, (all.getD (o.getD t default) default).number - 1) hx3
        have hb2 := lk_cv (fun _ => false) true ((all.getD (o.getD t default) default).parent, (all.getD (o.getD t default) default).number - 1)
        have K2 : LinkOk ((all.getD (o.getD t default) default).parent, (all.getD (o.getD t default) default).number - 1) := ⟨hx3, by have := k.number; show _ - 1 < _; omega⟩
        have hkey := keyL _ K2
        have hks := keysE fun x hx => (hJ.good.e x hx).1
        cases hF : E.lookup ((all.getD (o.getD t default) default).parent, (all.getD (o.getD t default) default).number - 1) with
        | none =>
          have hok : J f all o (t + 1) R E := hs (R, E) (by show (match E.lookup _ with | none => _ | some p => _) = _; rw [hF])
          have hget := getE_none hJ.good.o2 hF
          clear hs hJ
          exact wk trueW trueW trueW
        | some p =>
          have hpl := (hJ.good.e _ (look_some hF)).2
          have hget := getE_some hJ.good.o2 hF
          have hno : R.lookup (o.getD t default) = none := J_no hJ h1 hom hod
          have hno1 := noR hno
          have hk3 := keyI (o.getD t default) (by omega)
          have hks3 := keysR fun x hx => Nat.lt_trans (hJ.good.r x hx).2.1 (by omega)
          have hes3 := rM_snoc R (o.getD t default) p
          have hb3 := link_b (f (all.getD (o.getD t default) default), (all.getD (o.getD t default) default).number) hx2
          have hb4 := lk_cv (fun _ => false) true (f (all.getD (o.getD t default) default), (all.getD (o.getD t default) default).number)
          have hkey5 := keyL (f (all.getD (o.getD t default) default), (all.getD (o.getD t default) default).number) K
          have hlk : (lkC (f (all.getD (o.getD t default) default), (all.getD (o.getD t default) default).number)).length = 33 := lkC_len K
          have hlb := lk_bare (f (all.getD (o.getD t default) default), (all.getD (o.getD t default) default).number)
          have hrl := lk_refs
          cases hE : E.lookup (f (all.getD (o.getD t default) default), (all.getD (o.getD t default) default).number) with
          | none =>
            have hok : J f all o (t + 1) (R ++ [(o.getD t default, p)]) (E ++ [((f (all.getD (o.getD t default) default), (all.getD (o.getD t default) default).number), o.getD t default)]) := hs (_, _) (by
              show (match E.lookup _ with | none => _ | some p => _) = _
              rw [hF]
              show (_, (match E.lookup _ with | none => _ | some p => _)) = _
              rw [hE])
            have hget5 := getE_none hJ.good.o2 hE
            have hno5 := noE hE
            have hes5 := eM_snoc E (f (all.getD (o.getD t default) default), (all.getD (o.getD t default) default).number) (o.getD t default)
            clear hs hJ
            exact wk trueW trueW trueW
          | some q =>
            have hql := (hJ.good.e _ (look_some hE)).2
            have hget5 := getE_some hJ.good.o2 hE
            by_cases hiq : o.getD t default < q
            · have hok : J f all o (t + 1) (R ++ [(o.getD t default, p)]) (E.set (idx E (f (all.getD (o.getD t default) default), (all.getD (o.getD t default) default).number)) ((f (all.getD (o.getD t default) default), (all.getD (o.getD t default) default).number), o.getD t default)) := hs (_, _) (by
                show (match E.lookup _ with | none => _ | some p => _) = _
                rw [hF]
                show (_, (match E.lookup _ with | none => _ | some p => _)) = _
                rw [hE]
                show (_, if _ then _ else _) = _
                rw [if_pos hiq])
              have hat := atE hJ.good.o2 hE
              have hes5 := eM_set E (idx E (f (all.getD (o.getD t default) default), (all.getD (o.getD t default) default).number)) (f (all.getD (o.getD t default) default), (all.getD (o.getD t default) default).number) (o.getD t default)
              clear hs hJ
              exact wk trueW trueW trueW
            · have hok : J f all o (t + 1) (R ++ [(o.getD t default, p)]) E := hs (_, _) (by
                show (match E.lookup _ with | none => _ | some p => _) = _
                rw [hF]
                show (_, (match E.lookup _ with | none => _ | some p => _)) = _
                rw [hE]
                show (_, if _ then _ else _) = _
                rw [if_neg hiq])
              clear hs hJ
              exact wk trueW trueW trueW
    · have ht : t = o.length := Nat.le_antisymm hJ.le h1
      have hR := hJ.eq
      rw [ht, List.take_length] at hR
      rw [hR]
      clear hJ hR h1
      exact wk trueW trueW trueW
end Cm
end Lf
end Go.Proofs.Ytgjoecocahpfhaa

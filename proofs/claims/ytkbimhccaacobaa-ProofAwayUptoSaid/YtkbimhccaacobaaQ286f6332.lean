/- A part of the proof: texts joined. -/
import Derived.Test.YtkbimhccaacobaaQ27a008e9
namespace Go.Proofs.Ytkbimhccaacobaa
open Go.RowKit Rg Wm Ar
set_option linter.unusedVariables false
set_option maxRecDepth 100000
namespace Lf
open Tr Ro Pk
namespace Rw
set_option maxHeartbeats 4000000 in
theorem SameTexts_ (a b : List (List UInt8)) (ha : a.length < 100000000) (hb : b.length < 100000000) : LF Try.prog 31 [txV a, txV b] (fun _ => .k (.bool (decide (a = b)))) none := by
  by_cases hl : a.length = b.length
  case neg =>
    rw [decide_eq_false (fun e => hl (congrArg List.length e))]
    refine LFx.mk' tt Try.func31 rfl rfl rfl (by kernel_rfl) rfl rfl fun F => ?_
    exact wk trueW trueW trueW
  obtain ⟨r, hr⟩ : ∃ r, r = decide (a = b) := ⟨_, rfl⟩
  rw [← hr]
  refine LFx.mk' tt Try.func31 rfl rfl rfl (by kernel_rfl) rfl rfl fun F => ?_
  refine wk ?_ trueW trueW
  refine LC.loopN (fun i => [(0, .s none (a.map bV)), (1, .s none (b.map bV)), (12, .k (.int .i64 ((a.length : Nat) : Int))), (13, .k (.int .i64 ((i : Nat) : Int)))]) (fun i => []) (fun i => i ≤ a.length ∧ ∀ j, j < i → a.getD j default = b.getD j default) ((a.length - ·)) (0) ⟨by omega, fun j hj => by omega⟩ ⟨rfl, rfl, rfl, rfl, trivial⟩ trivial rfl rfW rfW ?_
  rintro i ⟨hi, hall⟩
  rcases Nat.lt_or_ge i a.length with h | h
  · by_cases e : a.getD i default = b.getD i default
    · have hs : arithS .neq ⟨(a.getD i default).toArray⟩ ⟨(b.getD i default).toArray⟩ = some (.bool false) := by rw [e]; exact neS_f' _
      have hok : i + 1 ≤ a.length ∧ ∀ j, j < i + 1 → a.getD j default = b.getD j default := ⟨h, fun j hj => by
        by_cases e2 : j = i
        · subst e2; exact e
        · exact hall j (by omega)⟩
      clear hall e hr
      exact wk trueW trueW trueW
    · have hs := neS_t' e
      have hrf : r = false := by rw [hr]; exact decide_eq_false fun e2 => e (by rw [e2])
      subst hrf
      clear hall e hr
      exact wk trueW trueW trueW
  · obtain rfl : i = a.length := by omega
    have hrt : r = true := by
      rw [hr]
      refine decide_eq_true (List.ext_getElem hl fun i h1 h2 => ?_)
      have := hall i h1
      rwa [List.getD_eq_getElem?_getD, List.getD_eq_getElem?_getD, List.getElem?_eq_getElem h1, List.getElem?_eq_getElem h2] at this
    subst hrt
    clear hall hr
    exact wk trueW trueW trueW
set_option maxHeartbeats 8000000 in
theorem ProofAway (x : Rn) (key value other : List UInt8) (hx : x.size ≤ 1048576) (hkl : key.length ≤ 1048576) (hvl : value.length ≤ 1048576) (hol : other.length ≤ 1048576) : LF Try.prog 7 [rnV x, bV key, bV value, bV other] (fun _ => .k (.bool true)) none := by
  have c1 := alive9_
  have hk4 := rnC_len x
  have hrf := rnC_refs
  have hss : arithS .eql ⟨other.toArray⟩ ⟨key.toArray⟩ = some (.bool (decide (other = key))) := Lf.eqS rfl
  rcases Put_ x key value (by omega) with ⟨hr, hk, hv, c2⟩ | ⟨e, h1, h2, c2⟩
  · by_cases ho : 32 < other.length
    · have hk5 := rnC_len (ofN (Tr.put (toN x) (keyP key) value))
      generalize ofN (Tr.put (toN x) (keyP key) value) = y at *
      generalize decide (other = key) = b at *
      refine LFx.mk' tt Try.func7 rfl rfl rfl (by kernel_rfl) rfl rfl fun F => ?_
      exact wk trueW trueW trueW
    · by_cases he : other = key
      · rw [decide_eq_true he] at hss
        have hk5 := rnC_len (ofN (Tr.put (toN x) (keyP key) value))
        generalize ofN (Tr.put (toN x) (keyP key) value) = y at *
        clear he
        refine LFx.mk' tt Try.func7 rfl rfl rfl (by kernel_rfl) rfl rfl fun F => ?_
        exact wk trueW trueW trueW
      · rw [decide_eq_false he] at hss
        have hR := rt_right _ _ 0 (Nat.le_refl _) hr
        have hR2 := put_right hr hk hv
        have hsz := put_size hr hk hv
        have hr2 : rt (ofN (Tr.put (toN x) (keyP key) value)) 0 = true := rt_of _ 0 hR2
        have hty : toN (ofN (Tr.put (toN x) (keyP key) value)) = Tr.put (toN x) (keyP key) value := toN_of _
        have hg : Tr.get (Tr.put (toN x) (keyP key) value) (keyP other) = Tr.get (toN x) (keyP other) := by
          rw [get_put, if_neg]
          exact fun e => he (keyP_inj e)
        have c3 := Root_ok x (by omega) hr
        have c4 := Root_ok (ofN (Tr.put (toN x) (keyP key) value)) (by omega) hr2
        have c5 := Make_ok x other (by omega) hr (by omega)
        have c6 := Make_ok (ofN (Tr.put (toN x) (keyP key) value)) other (by omega) hr2 (by omega)
        rw [hty] at c4 c6
        have hq := keyP_len other
        have hl1 := sumB_len (hcB (toN x))
        have hl2 := sumB_len (hcB (Tr.put (toN x) (keyP key) value))
        have hw1 := wayA_le (toN x) (keyP other)
        have hw2 := wayA_le (Tr.put (toN x) (keyP key) value) (keyP other)
        have c7 := Check_ (sumB (hcB (toN x))) other (wayA (toN x) (keyP other)) hl1 (by omega) (by omega) (way_lens hR _)
        have c8 := Check_ (sumB (hcB (Tr.put (toN x) (keyP key) value))) other (wayA (Tr.put (toN x) (keyP key) value) (keyP other)) hl2 (by omega) (by omega) (way_lens hR2 _)
        have e1 : ck sumB (wayA (toN x) (keyP other)) true (sumB (hcB (toN x))) (pB (keyP other)) = (0, Tr.get (toN x) (keyP other)) := ck_way sumB sumB_len _ _ _ 0 true hR (fun h => by cases h) (by omega)
        have e2 : ck sumB (wayA (Tr.put (toN x) (keyP key) value) (keyP other)) true (sumB (hcB (Tr.put (toN x) (keyP key) value))) (pB (keyP other)) = (0, Tr.get (toN x) (keyP other)) := by rw [← hg]; exact ck_way sumB sumB_len _ _ _ 0 true hR2 (fun h => by cases h) (by omega)
        rw [e1] at c7
        rw [e2] at c8
        have hgl := get_len hR (keyP other)
        have hs2 : arithS .eql ⟨(Tr.get (toN x) (keyP other)).toArray⟩ ⟨(Tr.get (toN x) (keyP other)).toArray⟩ = some (.bool true) := Lf.eqS (decide_eq_true rfl)
        have hk5 := rnC_len (ofN (Tr.put (toN x) (keyP key) value))
        clear he hR hR2 hty hg e1 e2
        generalize Tr.get (toN x) (keyP other) = G at *
        generalize wayA (Tr.put (toN x) (keyP key) value) (keyP other) = W2 at *
        generalize wayA (toN x) (keyP other) = W1 at *
        generalize sumB (hcB (Tr.put (toN x) (keyP key) value)) = HY at *
        generalize sumB (hcB (toN x)) = HX at *
        generalize ofN (Tr.put (toN x) (keyP key) value) = y at *
        refine LFx.mk' tt Try.func7 rfl rfl rfl (by kernel_rfl) rfl rfl fun F => ?_
        exact wk trueW trueW trueW
  · have hk5 := rnC_len Rn.no
    generalize Rn.no = y at *
    generalize decide (other = key) = b at *
    refine LFx.mk' tt Try.func7 rfl rfl rfl (by kernel_rfl) rfl rfl fun F => ?_
    exact wk trueW trueW trueW
set_option maxHeartbeats 8000000 in
theorem ProofOne (x : Rn) (key : List UInt8) (codes : List (List UInt8)) (more : List UInt8) (hx : x.size ≤ 1048576) (hkl : key.length ≤ 1048576) (hc : codes.length ≤ 1048576) (ht : ∀ t ∈ codes, t.length ≤ 1048576) (hm : more.length ≤ 1048576) : LF Try.prog 8 [rnV x, bV key, txV codes, bV more] (fun _ => .k (.bool true)) none := by
  have c1 := alive9_
  have hk4 := rnC_len x
  have hrf := rnC_refs
  have hl0 : hash0.length = 32 := rfl
  cases hr : rt x 0 with
  | false =>
    have c2 := Root_no x (by omega) hr
    have c3 := Make_no x key (by omega) hr
    generalize hash0 = H at *
    refine LFx.mk' tt Try.func8 rfl rfl rfl (by kernel_rfl) rfl rfl fun F => ?_
    exact wk trueW trueW trueW
  | true =>
    have c2 := Root_ok x (by omega) hr
    have hl1 := sumB_len (hcB (toN x))
    by_cases hk : key.length ≤ 32
    · have hR := rt_right _ _ 0 (Nat.le_refl _) hr
      have c3 := Make_ok x key (by omega) hr hk
      have hq := keyP_len key
      have hwl := wayA_le (toN x) (keyP key)
      have hw0 : 0 < (wayA (toN x) (keyP key)).length := by rw [wayA_head, List.length_cons]; omega
      have hlens := way_lens hR (keyP key)
      have c4 := Check_ (sumB (hcB (toN x))) key ((wayA (toN x) (keyP key)).take ((wayA (toN x) (keyP key)).length - 1)) hl1 hk (by rw [List.length_take]; omega) (fun t h => hlens t (List.mem_of_mem_take h))
      have e4 : ck sumB ((wayA (toN x) (keyP key)).take ((wayA (toN x) (keyP key)).length - 1)) true (sumB (hcB (toN x))) (pB (keyP key)) = (5, []) := by
        rw [← List.dropLast_eq_take]
        exact ck_less sumB sumB_len _ _ _ 0 true hR (fun h => by cases h) (by omega)
      rw [e4] at c4
      have c5 := Check_ (sumB (hcB (toN x))) key (wayA (toN x) (keyP key) ++ [more]) hl1 hk (by rw [List.length_append, List.length_singleton]; omega) (fun t h => by
        rcases List.mem_append.1 h with h | h
        · exact hlens t h
        · rw [List.mem_singleton] at h; subst h; omega)
      have e5 : ck sumB (wayA (toN x) (keyP key) ++ [more]) true (sumB (hcB (toN x))) (pB (keyP key)) = (6, []) := ck_more sumB sumB_len more _ _ _ 0 true hR (fun h => by cases h) (by omega)
      rw [e5] at c5
      obtain ⟨v, e, c6, h1, h2, hv⟩ := Check_any (sumB (hcB (toN x))) key codes hl1 (by omega) (fun t h => by have := ht t h; omega)
      have c7 := SameTexts_ codes (wayA (toN x) (keyP key)) (by omega) (by omega)
      have c8 := Concat2 (wayA (toN x) (keyP key)) codes (by omega) (by omega)
      obtain ⟨b, c9, hb⟩ := Clash_t (ts := wayA (toN x) (keyP key) ++ codes) (by rw [List.length_append]; omega) (fun t hm => by
        rcases List.mem_append.1 hm with h | h
        · have := hlens t h; omega
        · have := ht t h; omega)
      have hfin : e ≠ 0 ∨ codes = wayA (toN x) (keyP key) ∨ b = true := by
        by_cases he : e = 0
        · right
          by_cases hn : ∀ a ∈ codes, ∀ b ∈ way sumB ((keyP key).length + 1) (toN x) (keyP key), sumB a = sumB b → a = b
          · exact .inl (ck_true sumB sumB_len _ _ _ 0 true codes v hR (fun h => by cases h) (by omega) hn (h2 he).2).2
          · simp only [Classical.not_forall] at hn
            obtain ⟨a, ha, b', hb', e, hne⟩ := hn
            exact .inr (hb.2 ⟨a, List.mem_append_right _ ha, b', List.mem_append_left _ hb', e, hne⟩)
        · exact .inl he
      have c10 : ∀ k, LM Try.prog 22 [txV (wayA (toN x) (keyP key))] [] fun o m => o = .ret (.s (some k) ((wayA (toN x) (keyP key)).map bV)) ∧ m = [(k, .r 22 1 (wayA (toN x) (keyP key)).length)] := fun k => by
        have h := Sl2.CloneBB ((wayA (toN x) (keyP key)).map bV) (fun e he => by obtain ⟨x, _, rfl⟩ := List.mem_map.1 he; rfl) (by rw [List.length_map]; omega) k
        rwa [List.length_map] at h
      have hds : decide (codes = wayA (toN x) (keyP key)) = true ∨ decide (codes = wayA (toN x) (keyP key)) = false := by cases decide (codes = wayA (toN x) (keyP key)) <;> simp
      have hfin2 : e ≠ 0 ∨ decide (codes = wayA (toN x) (keyP key)) = true ∨ b = true := hfin.imp id (Or.imp decide_eq_true id)
      clear hR hlens e4 e5 h1 h2 hb hfin ht
      generalize decide (codes = wayA (toN x) (keyP key)) = sm at *
      generalize wayA (toN x) (keyP key) = W at *
      generalize sumB (hcB (toN x)) = HX at *
      by_cases he : e = 0
      · subst he
        rcases hds with rfl | rfl
        · clear hfin2
          refine LFx.mk' tt Try.func8 rfl rfl rfl (by kernel_rfl) rfl rfl fun F => ?_
          exact wk trueW trueW trueW
        · have hbt : b = true := by
            rcases hfin2 with h | h | h
            · exact absurd rfl h
            · exact absurd h (by decide)
            · exact h
          subst hbt
          clear hfin2
          refine LFx.mk' tt Try.func8 rfl rfl rfl (by kernel_rfl) rfl rfl fun F => ?_
          exact wk trueW trueW trueW
      · clear hfin2 hds
        refine LFx.mk' tt Try.func8 rfl rfl rfl (by kernel_rfl) rfl rfl fun F => ?_
        exact wk trueW trueW trueW
    · have c3 := Make_long x key (by omega) hr (by omega)
      generalize sumB (hcB (toN x)) = HX at *
      refine LFx.mk' tt Try.func8 rfl rfl rfl (by kernel_rfl) rfl rfl fun F => ?_
      exact wk trueW trueW trueW
end Rw
end Lf
namespace Lf
namespace Rw
end Rw
end Lf
namespace Lf
namespace Te
end Te
end Lf
open Go.RowKit Rg Rp Wm Ar
set_option maxRecDepth 100000
namespace Lf
theorem flat_cells {sz : Nat} : ∀ {es : List V}, (∀ e ∈ es, e.cells.length = sz) → (es.flatMap V.cells).length = es.length * sz
  | [], _ => by simp
  | e :: r, h => by
    rw [List.flatMap_cons, List.length_append, h e List.mem_cons_self, flat_cells fun a ha => h a (List.mem_cons_of_mem _ ha), List.length_cons, Nat.succ_mul, Nat.add_comm]
def Gh.off (g : Gh) (a : Option Nat) : Gh := ⟨fun b o => g.S b o ∧ a ≠ some b, g.bx, g.rw⟩
theorem flat_bytes {l : List UInt8} {j : Nat} {u : V} (h : ((l.map bK).flatMap V.cells)[j]? = some u) : ∃ b, u = bK b := by
  obtain ⟨e, he, hu⟩ := List.mem_flatMap.1 (List.mem_of_getElem? h)
  obtain ⟨b, _, rfl⟩ := List.mem_map.1 he
  exact ⟨b, by simpa [V.cells, bK] using hu⟩
theorem rep_off {w : World} {g : Gh} {a : Option Nat} {xs : List Value} {E sz n c : Nat} (hown : w.oRow 0 E sz (.slice (a.map fun b => ⟨b, 0, none⟩) n c) n xs) (hfree : ∀ b, a = some b → ∀ o, n * sz ≤ o → ¬ g.S b o)
    (hsl : ∀ (j : Nat) x, xs[j]? = some x → ∃ ad m cap, x = .slice ad m cap) {l : List UInt8} {x : Value} (h : Rep w g.bare (.s none (l.map bK)) x) : Rep w (g.off a).bare (.s none (l.map bK)) x := by
  have hes : ∀ (j : Nat) u, ((l.map bK).flatMap V.cells)[j]? = some u → ∃ b, u = bK b := fun j u => flat_bytes
  generalize l.map bK = es' at h hes ⊢
  cases h with
  | s0 ht => exact .s0 fun _ h => by cases h
  | se a' ht => exact .se a' fun _ h => by cases h
  | @s _ _ _ b off cap size xs' hn hm hp hs hx hc ht =>
    refine .s xs' hn hm hp hs (fun j u hj => ?_) (fun j u hj => ?_) (fun _ h => by cases h)
    · obtain ⟨p1, p2, p3⟩ := hx j u hj
      refine ⟨p1, ⟨p2, fun ha => ?_⟩, p3⟩
      have q : off + j < n * sz := by
        rcases Nat.lt_or_ge (off + j) (n * sz) with h | h
        · exact h
        · exact absurd p2 (hfree b ha _ h)
      have hlen := hown.1
      have hx1 : xs[off + j]? = some (xs[off + j]'(by omega)) := List.getElem?_eq_getElem _
      have h5 := oRow_cells hown (g := b) (by simp [ha, Value.ownBlock]) (off + j) _ hx1
      rw [Addr.add_lit, Nat.zero_add] at h5
      rw [h5] at p3
      obtain ⟨ad, m, cp, e⟩ := hsl _ _ hx1
      obtain ⟨b', rfl⟩ := hes j u hj
      have h6 := hc j _ hj
      rw [e] at p3
      injection p3 with p3
      rw [← p3] at h6
      cases h6
    · obtain ⟨b', rfl⟩ := hes j u hj
      have h6 := hc j _ hj
      generalize xs' j = z at h6 ⊢
      cases h6
      exact .k _
theorem LM.buf {P : Program} {f : Nat} {args es : List V} {E sz n k : Nat} {u : Value} (hn : es.length = n) (h0 : 0 < n) (hb : ∀ e ∈ es, e.cells.length = sz ∧ ∀ c ∈ e.cells, ∃ l : List UInt8, c = .s none (l.map bK))
    (h : LM P f args [] fun o m => o = .ret (.t [.s (some k) es, .k u]) ∧ m = [(k, .r E sz n)]) : LM P f args [] fun o m => o = .ret (.t [.w k n sz 0 n, .k u]) ∧ m = [(k, .w E sz n es)] := by
  refine ⟨h.ok, fun g w vals h1 h2 h3 => Calls.mono (h.go g w vals h1 h2 h3) ?_⟩
  rintro e w' ⟨o, mo, g', ⟨rfl, rfl⟩, hev, hrel, hk, x, rfl, hrep⟩
  cases hrep with
  | @t _ _ vs hl hc =>
  have hl2 : vs.size = 2 := hl.symm
  obtain ⟨y, hy⟩ : ∃ y, vs[0]? = some y := ⟨_, Array.getElem?_eq_getElem (by omega)⟩
  have hr0 := hc 0 _ y rfl hy
  have hko := hrel.ob k _ (aget_self ..)
  cases hko with
  | @r _ _ _ c a hg hR =>
  obtain ⟨hp, ⟨xs, hown⟩, hfree⟩ := hR
  have hab : ∀ b, a = some b → w.heap.size ≤ b := fun b hb => by
    rcases hrel.wr k _ b 0 (aget_self ..) ⟨_, _, by rw [hg, hb]⟩ with h | ⟨i, m, hm, _⟩
    · exact h
    · cases hm
  have hlt : ∀ b, a = some b → b < w'.heap.size := fun b hb => (oRow_lt hown b (by simp [hb, Value.ownBlock])).2
  have hfl : (es.flatMap V.cells).length = n * sz := by rw [flat_cells fun e he => (hb e he).1, hn]
  have hxl := hown.1
  cases hr0 with
  | s0 ht => simp at hn; omega
  | se a' ht => simp at hn; omega
  | @s _ _ _ b off cap size xs' hn' hm' hp' hs' hx' hc' ht =>
  obtain ⟨a1, l1, c1, e1, e2, e3⟩ := ht k rfl
  rw [hg] at e1
  cases e1
  have hy2 : Value.slice (some ⟨b, off, none⟩) es.length cap = .slice (a.map fun b => ⟨b, 0, none⟩) n c := by
    rcases e3 hn with h | ⟨_, h, _⟩
    · exact h
    · omega
  injection hy2 with q1 q2 q3
  obtain ⟨rfl, rfl⟩ : a = some b ∧ off = 0 := by
    cases a with
    | none => cases q1
    | some a => simp at q1; exact ⟨by rw [q1.1], q1.2⟩
  have hat : ∀ (j : Nat) x, xs[j]? = some x → ∃ l : List UInt8, (es.flatMap V.cells)[j]? = some (.s none (l.map bK)) ∧ Rep w' g'.bare (.s none (l.map bK)) x := fun j x hj => by
    have hjl : j < (es.flatMap V.cells).length := by
      have := (List.getElem?_eq_some_iff.1 hj).1
      omega
    have hu := List.getElem?_eq_getElem hjl
    obtain ⟨e, he, hue⟩ := List.mem_flatMap.1 (List.getElem_mem hjl)
    obtain ⟨l, hl⟩ := (hb e he).2 _ hue
    rw [hl] at hu
    obtain ⟨p1, p2, p3⟩ := hx' j _ hu
    have h5 := oRow_cells hown (g := b) (by simp [Value.ownBlock]) j _ hj
    rw [Addr.add_lit] at h5
    rw [h5] at p3
    injection p3 with p3
    rw [p3]
    exact ⟨l, hu, hc' j _ hu⟩
  have hsl : ∀ (j : Nat) x, xs[j]? = some x → ∃ ad m cap, x = .slice ad m cap := fun j x hj => by
    obtain ⟨l, _, hr⟩ := hat j x hj
    generalize l.map bK = es' at hr
    cases hr with
    | s0 ht => exact ⟨_, _, _, rfl⟩
    | se a' ht => exact ⟨_, _, _, rfl⟩
    | s xs' hn hm hp hs hx hc ht => exact ⟨_, _, _, rfl⟩
  have hne : ∀ b', b' < w.heap.size → some b ≠ some b' := fun b' hb' e => by
    injection e with e
    have := hab b rfl
    omega
  have hone : ∀ {i : Nat} {m m0 : M}, aget [(k, m0)] i = some m → i = k ∧ m = m0 := fun {i m m0} h => by
    rw [aget_cons] at h
    split at h
    · rename_i e; cases h; exact ⟨e.symm, rfl⟩
    · cases h
  have hnone : ∀ {i : Nat} {m m0 : M}, aget [(k, m)] i = none → aget [(k, m0)] i = none := fun {i m m0} h => by
    rw [aget_cons] at h ⊢
    split at h
    · cases h
    · rename_i e; rw [if_neg e]; rfl
  subst hn
  have hR2 : RelM (lentF g [] w) (g'.off (some b)) [(k, .w E sz es.length es)] w' := by
    refine ⟨fun i m hi => ?_, fun i m b' o hi hf => ?_, fun i j m m' b' o hij hi hj => ?_, fun i hi => hrel.nbx i (hnone hi), fun i hi => hrel.nrw i (hnone hi), fun b' o hb' => ⟨hrel.fut b' o hb', fun e => ?_⟩, ⟨hrel.loc.tab, hrel.loc.bx, hrel.loc.rw⟩⟩
    · obtain ⟨rfl, rfl⟩ := hone hi
      refine .w (a := some b) (c := c) hg ⟨hp, fun e he => ⟨(hb e he).1, fun u hu => ?_⟩, ⟨xs, hown, fun j u x hu hx => ?_⟩, fun b' e o h => h.2 e⟩
      · obtain ⟨l, rfl⟩ := (hb e he).2 u hu; rfl
      · obtain ⟨l, hu', hr⟩ := hat j x hx
        rw [hu] at hu'
        cases hu'
        exact rep_off hown hfree hsl hr
    · obtain ⟨rfl, rfl⟩ := hone hi
      exact hrel.wr _ _ b' o (aget_self ..) hf
    · exact absurd ((hone hi).1.trans (hone hj).1.symm) hij
    · injection e with e
      have := hlt b rfl
      omega
  refine ⟨_, _, g'.off (some b), ⟨rfl, rfl⟩, ⟨hev.size, fun b' o hb' hs => ⟨⟨(hev.st b' o hb' hs).1, hne b' hb'⟩, (hev.st b' o hb' hs).2⟩, hev.bx, hev.rw⟩, hR2, ⟨hk.os, hk.tape, hk.output, hk.size, hk.blk, hk.cell, fun b' o hb hB hS => hk.S1 b' o hb hB hS.1, fun b' o hb hS => ⟨hk.S2 b' o hb hS, hne b' hb⟩, hk.cellS⟩, _, rfl, ?_⟩
  refine .t hl fun j u' x hu hx => ?_
  match j, hu with
  | 0, hu =>
    cases hu
    rw [hy] at hx
    cases hx
    exact .w ⟨some b, es.length, c, hg, Nat.le_refl _, fun _ => ⟨by omega, by omega, fun _ => by simp⟩⟩
  | 1, hu =>
    cases hu
    have := hc 1 _ x rfl hx
    cases this
    exact .k _
end Lf
namespace Lf
namespace Te
end Te
end Lf
namespace Lf
namespace Te
end Te
end Lf
namespace Lf
section
end
namespace Te
end Te
end Lf
namespace Lf
namespace Rw
end Rw
end Lf
open Go.RowKit Rg Rp Go.WideShapes Go.ChangeShapes Wm Ar
set_option maxRecDepth 100000
namespace Lf
open Tr Ro
section
variable {H : Type} {enc : TypeId × Value → H} {W : World}
theorem opnTexts (n : Nat) : Opn enc Try.prog W n 23 (fun l : List (List UInt8) => [.s none (l.map bV)]) (fun _ => True) (fun l => (l.map fun x => x.length + 1).sum + 1) :=
  (Opn.sl (e := 22) (k := 1) bV (by kernel_rfl) (by kernel_rfl) (by decide) (fun _ => rfl) (Opn.bytes (e := 5) (by kernel_rfl) (by kernel_rfl) (by kernel_rfl))).map id (fun _ _ => rfl) (fun _ _ => trivial) (fun _ _ => Nat.le_refl _)
end
theorem sum_ge_one (l : List (List UInt8)) : l.length ≤ (l.map fun x => x.length + 1).sum := by
  induction l with
  | nil => simp
  | cons a r ih => simp only [List.map_cons, List.sum_cons, List.length_cons]; omega
theorem sum_ge_mem {l : List (List UInt8)} {t : List UInt8} (h : t ∈ l) : t.length + 1 ≤ (l.map fun x => x.length + 1).sum := by
  induction l with
  | nil => cases h
  | cons a r ih =>
    simp only [List.map_cons, List.sum_cons]
    rcases List.mem_cons.1 h with rfl | h
    · omega
    · have := ih h; omega
end Lf
namespace Lf
namespace Rw
end Rw
end Lf
open Go.RowKit Rg Wm Ar
set_option maxRecDepth 100000
namespace Lf
open Tr Ro
namespace Rw
theorem LProofTrue (x : Rn) (key : List UInt8) (codes : List (List UInt8)) (hs : x.size + ((key.length + 1) + ((codes.map fun x => x.length + 1).sum + 1)) ≤ 1048576) : LF Try.prog 11 [rnV x, bV key, txV codes] (fun _ => .k (.bool true)) none := by
  have := sum_ge_one codes
  exact ProofTrue x key codes (by omega) (by omega) (by omega) fun t ht => by have := sum_ge_mem ht; omega
theorem LProofOne (x : Rn) (key : List UInt8) (codes : List (List UInt8)) (more : List UInt8) (hs : x.size + ((key.length + 1) + (((codes.map fun x => x.length + 1).sum + 1) + (more.length + 1))) ≤ 1048576) : LF Try.prog 8 [rnV x, bV key, txV codes, bV more] (fun _ => .k (.bool true)) none := by
  have := sum_ge_one codes
  exact ProofOne x key codes more (by omega) (by omega) (by omega) (fun t ht => by have := sum_ge_mem ht; omega) (by omega)
end Rw
end Lf
end Go.Proofs.Ytkbimhccaacobaa

/- A part of the proof: texts joined. -/
import Derived.Test.YtkbimhccaacobaaQ218040db
namespace Go.Proofs.Ytkbimhccaacobaa
open Go.RowKit Rg Wm Ar
set_option linter.unusedVariables false
set_option maxRecDepth 100000
namespace Lf
open Tr Ro Pk
theorem mapTyB : MapTy Try.prog 105 34 (.slice none 0 0) := ⟨⟨22, by kernel_rfl, fun w => by kernel_rfl⟩, lawH⟩
abbrev EntB := List (List UInt8 × List UInt8)
def mB (E : EntB) : List (Value × V) := E.map fun p => (hashK p.1, bV p.2)
def byE (E : EntB) (h : List UInt8) : Option (List UInt8) := (E.find? fun p => decide (p.1 = h)).map (·.2)
structure EntOk (E : EntB) : Prop where
  one : ∀ p ∈ E, ∀ q ∈ E, p.1 = q.1 → p = q
  len : ∀ p ∈ E, p.1.length = 32
  val : ∀ p ∈ E, p.2.length < 3000000
theorem byE_none {E : EntB} {h : List UInt8} (e : byE E h = none) : ∀ p ∈ E, p.1 ≠ h := by
  unfold byE at e
  rw [Option.map_eq_none_iff, List.find?_eq_none] at e
  intro p hp hh
  exact e p hp (decide_eq_true hh)
theorem byE_some {E : EntB} {h c : List UInt8} (e : byE E h = some c) : (h, c) ∈ E := by
  unfold byE at e
  obtain ⟨p, hp, rfl⟩ := Option.map_eq_some_iff.1 e
  have h1 := List.find?_some hp
  have h2 := List.mem_of_find?_eq_some hp
  have : p.1 = h := of_decide_eq_true h1
  rw [← this]; exact h2
theorem bget_no {E : EntB} {h : List UInt8} (hn : ∀ p ∈ E, p.1 ≠ h) : MGetO (mB E) (hashK h) (.s none []) (.s none []) false := ⟨fun _ => ⟨rfl, rfl⟩, fun p hp e => by
  obtain ⟨q, hq, rfl⟩ := List.mem_map.1 hp
  exact absurd (hashK_inj e) (hn q hq)⟩
theorem bget_yes {E : EntB} {h c : List UInt8} (hE : EntOk E) (hm : (h, c) ∈ E) : MGetO (mB E) (hashK h) (.s none []) (bV c) true := ⟨fun h1 => absurd rfl (h1 (hashK h, bV c) (List.mem_map.2 ⟨(h, c), hm, rfl⟩)), fun p hp e => by
  obtain ⟨q, hq, rfl⟩ := List.mem_map.1 hp
  have e2 := hashK_inj e
  have := hE.one q hq (h, c) hm e2
  subst this
  exact ⟨rfl, rfl⟩⟩
theorem bks {E : EntB} (h : EntOk E) : KeysV Try.prog 34 (mB E) := ⟨fun p hp => by
  obtain ⟨q, hq, rfl⟩ := List.mem_map.1 hp
  exact key_hashK (h.len q hq)⟩
theorem bno {E : EntB} {h : List UInt8} (hn : ∀ p ∈ E, p.1 ≠ h) : MNo (mB E) (hashK h) := ⟨fun p hp e => by
  obtain ⟨q, hq, rfl⟩ := List.mem_map.1 hp
  exact hn q hq (hashK_inj e)⟩
theorem mB_snoc (E : EntB) (h c : List UInt8) : mB E ++ [(hashK h, bV c)] = mB (E ++ [(h, c)]) := by
  unfold mB; rw [List.map_append]; rfl
def ldM (i j : Nat) (E : EntB) (m : Nat) : Mem := [(i, .b [.mp j, .k (.int .i64 (m : Int))]), (j, .m (mB E))]
def NodeC (E : EntB) (f : Nat) : Prop := ∀ (h : List UInt8) (deep m : Nat), h.length = 32 → 65 ≤ deep + f → deep < 100000000 → m ≤ 4096 →
  LM Try.prog 51 [.p 1000 0, hashV h, .k (.int .i64 (deep : Int))] (ldM 1000 1001 E m) fun o mm => o = .ret (.t [rnV (ld (byE E) f h deep m).1, .k (.int .i64 ((ld (byE E) f h deep m).2.1 : Int))]) ∧ mm = ldM 1000 1001 E (ld (byE E) f h deep m).2.2
theorem drop_cons {α : Type} [Inhabited α] {l : List α} {i : Nat} (h : i < l.length) : l.drop i = l.getD i default :: l.drop (i + 1) := by
  rw [List.drop_eq_getElem_cons h, List.getD_eq_getElem?_getD, List.getElem?_eq_getElem h]
  rfl
theorem rnV_no : rnV Rn.no = .a [.k (.int .i64 0), bV [], bV [], .s none []] := by
  rw [show Rn.no = .mk 0 [] [] [] from rfl]; unfold rnV; rw [rnC_eq]; rfl
namespace Rw
set_option maxHeartbeats 8000000 in
theorem node_ (E : EntB) (hE : EntOk E) : ∀ f, NodeC E f := by
  have hM := mapTyB
  have hkk := bks hE
  have hb := ld_bound (by_ := byE E) (B := 3000000) (fun h c e => Nat.le_of_lt (hE.val _ (byE_some e)))
  intro f
  induction f with
  | zero =>
    intro h deep m hh hd hd2 hm
    have hkey := keyH hh
    unfold ld
    rw [rnV_no]
    unfold ldM
    rcases hby : byE E h with _ | c
    · have hget := bget_no (byE_none hby)
      clear hb hby
      refine LM.enter tt Try.func51 rfl rfl rfl (by kernel_rfl) rfl rfl rfl (fun o mo h => by rw [h.2]; rfl) fun F _ => ?_
      exact wk trueW trueW trueW
    · have hget := bget_yes hE (byE_some hby)
      clear hb hby
      refine LM.enter tt Try.func51 rfl rfl rfl (by kernel_rfl) rfl rfl rfl (fun o mo h => by rw [h.2]; rfl) fun F _ => ?_
      exact wk trueW trueW trueW
  | succ f ih =>
    intro h deep m hh hd hd2 hm
    have hkey := keyH hh
    unfold ld
    unfold ldM
    by_cases h64 : 64 < deep
    · rw [if_pos h64, rnV_no]
      rcases hby : byE E h with _ | c
      · have hget := bget_no (byE_none hby)
        clear hb hby ih
        refine LM.enter tt Try.func51 rfl rfl rfl (by kernel_rfl) rfl rfl rfl (fun o mo h => by rw [h.2]; rfl) fun F _ => ?_
        exact wk trueW trueW trueW
      · have hget := bget_yes hE (byE_some hby)
        clear hb hby ih
        refine LM.enter tt Try.func51 rfl rfl rfl (by kernel_rfl) rfl rfl rfl (fun o mo h => by rw [h.2]; rfl) fun F _ => ?_
        exact wk trueW trueW trueW
    rw [if_neg h64]
    rcases hby : byE E h with _ | c
    · have hget := bget_no (byE_none hby)
      simp only []
      rw [rnV_no]
      clear hb hby ih
      refine LM.enter tt Try.func51 rfl rfl rfl (by kernel_rfl) rfl rfl rfl (fun o mo h => by rw [h.2]; rfl) fun F _ => ?_
      exact wk trueW trueW trueW
    have hget := bget_yes hE (byE_some hby)
    have hcl := hE.val _ (byE_some hby)
    simp only [] at hcl
    simp only []
    by_cases hm4 : m = 4096
    · rw [if_pos hm4, rnV_no]
      clear hb hby ih
      refine LM.enter tt Try.func51 rfl rfl rfl (by kernel_rfl) rfl rfl rfl (fun o mo h => by rw [h.2]; rfl) fun F _ => ?_
      exact wk trueW trueW trueW
    rw [if_neg hm4]
    obtain ⟨r1, r2⟩ := Read_ c hcl
    cases hr : readS c with
    | none =>
      have c1 := r1 hr
      simp only []
      rw [rnV_no]
      rw [shV_zero] at c1
      clear hb hby ih r1 r2 hr
      refine LM.enter tt Try.func51 rfl rfl rfl (by kernel_rfl) rfl rfl rfl (fun o mo h => by rw [h.2]; rfl) fun F _ => ?_
      exact wk trueW trueW trueW
    | some s =>
      have c1 := r2 s hr
      obtain ⟨b1, b2, b3, b4⟩ := readS_bound hr
      simp only []
      obtain ⟨k, p, v, ks⟩ := s
      simp only at b1 b2 b3 b4
      simp only [shV, shC_eq] at c1
      by_cases hk0 : k = 0 ∧ 0 < deep
      · rw [if_pos hk0, rnV_no]
        obtain ⟨hk0, hk1⟩ := hk0
        clear hb hby ih r1 r2 hr
        refine LM.enter tt Try.func51 rfl rfl rfl (by kernel_rfl) rfl rfl rfl (fun o mo h => by rw [h.2]; rfl) fun F _ => ?_
        exact wk trueW trueW trueW
      · rw [if_neg hk0]
        have hk00 : k = 0 → deep = 0 := fun e => by
          rcases Nat.eq_zero_or_pos deep with h | h
          · exact h
          · exact absurd ⟨e, h⟩ hk0
        obtain ⟨D, hD1, hD2⟩ : ∃ D, D = (if k = 2 then deep + (p.length - 1) else deep) ∧ dpS ⟨k, p, v, ks⟩ deep = D + 1 := ⟨_, rfl, by
          unfold dpS
          simp only []
          by_cases h2 : k = 2
          · have := readS_road hr h2
            simp only [] at this
            rw [if_pos h2, if_pos h2]; omega
          · rw [if_neg h2, if_neg h2]⟩
        have hDl : deep ≤ D ∧ D < 90000000 := by
          rw [hD1]
          split <;> omega
        obtain ⟨hDl1, hDl2⟩ := hDl
        rw [hD2]
        obtain ⟨g, hg⟩ : ∃ g : List UInt8 → Nat → Rn × Nat × Nat, g = fun k m => ld (byE E) f k (D + 1) m := ⟨_, rfl⟩
        rw [← hg]
        have hgC : ∀ q M, q.length = 32 → M ≤ 4096 → LM Try.prog 51 [.p 1000 0, hashV q, .k (.int .i64 ((D + 1 : Nat) : Int))] (ldM 1000 1001 E M) (fun o mm => o = .ret (.t [rnV (g q M).1, .k (.int .i64 ((g q M).2.1 : Int))]) ∧ mm = ldM 1000 1001 E (g q M).2.2) ∧ (g q M).2.2 ≤ 4096 := fun q M hq hM => by
          rw [hg]
          exact ⟨ih q (D + 1) M hq (by omega) (by omega) hM, (hb f q (D + 1) M hM).2.2⟩
        obtain ⟨X, hX⟩ : ∃ X, X = ldK g ks (m + 1) := ⟨_, rfl⟩
        rw [← hX]
        have hr2 : k = 2 → 0 < p.length := fun e => readS_road hr e
        clear hb hby ih r1 r2 hr hk0 hg hD2
        have hrf := rnC_refs
        have hbr := rnC_bare
        have hcv := rnC_cv
        have fin : ∀ (i M : Nat) (L : List Rn), i ≤ ks.length → X = (L ++ (ldK g (ks.drop i) M).1, (ldK g (ks.drop i) M).2) →
            (i = ks.length → ldR ⟨k, p, v, ks⟩ X = (.mk k p v L, 0, M)) ∧
            (i < ks.length → (ks.getD i default).length = 0 → X = ((L ++ [Rn.no]) ++ (ldK g (ks.drop (i + 1)) M).1, (ldK g (ks.drop (i + 1)) M).2)) ∧
            (i < ks.length → (ks.getD i default).length ≠ 0 → (g (ks.getD i default) M).2.1 = 0 → X = ((L ++ [(g (ks.getD i default) M).1]) ++ (ldK g (ks.drop (i + 1)) (g (ks.getD i default) M).2.2).1, (ldK g (ks.drop (i + 1)) (g (ks.getD i default) M).2.2).2)) ∧
            (i < ks.length → (ks.getD i default).length ≠ 0 → (g (ks.getD i default) M).2.1 ≠ 0 → ldR ⟨k, p, v, ks⟩ X = (.no, (g (ks.getD i default) M).2.1, (g (ks.getD i default) M).2.2)) := by
          intro i M L hi hXi
          refine ⟨fun h => ?_, fun h h1 => ?_, fun h h1 h2 => ?_, fun h h1 h2 => ?_⟩
          · subst h
            rw [List.drop_length] at hXi
            unfold ldK at hXi
            rw [hXi]
            unfold ldR
            rw [if_pos rfl, List.append_nil]
          · rw [drop_cons h] at hXi
            unfold ldK at hXi
            rw [if_pos h1] at hXi
            rw [hXi, List.append_assoc]
            rfl
          · rw [drop_cons h] at hXi
            unfold ldK at hXi
            rw [if_neg h1, if_pos h2] at hXi
            rw [hXi, List.append_assoc]
            rfl
          · rw [drop_cons h] at hXi
            unfold ldK at hXi
            rw [if_neg h1, if_neg h2] at hXi
            rw [hXi]
            unfold ldR
            rw [if_neg h2]
        have hcase : (k = 2 ∧ 0 < p.length ∧ D = deep + (p.length - 1)) ∨ (k = 0 ∧ deep = 0 ∧ D = deep) ∨ (¬ k = 2 ∧ ¬ k = 0 ∧ D = deep) := by
          by_cases hk2 : k = 2
          · rw [if_pos hk2] at hD1
            exact .inl ⟨hk2, hr2 hk2, hD1⟩
          · rw [if_neg hk2] at hD1
            by_cases hk0 : k = 0
            · exact .inr (.inl ⟨hk0, hk00 hk0, hD1⟩)
            · exact .inr (.inr ⟨hk2, hk0, hD1⟩)
        clear hr2 hk00 hD1
        rcases hcase with ⟨hk2, hp0, hD1⟩ | ⟨hk2, hp0, hD1⟩ | ⟨hk2, hp0, hD1⟩
        all_goals
          subst hD1
          refine LM.enter tt Try.func51 rfl rfl rfl (by kernel_rfl) rfl rfl rfl (fun o mo h => by rw [h.2]; rfl) fun F _ => ?_
          refine wk ?_ trueW trueW
          refine LC.nilcell 12 3 120 37 4 rfl rfl rfl (by decide) rfl ?_
        · refine LC.loop5 (fun i L M (_u3 : Unit) (_u4 : Unit) => [(0, .p 1000 0), (2, .k (.int .i64 (((deep + (p.length - 1)) : Nat) : Int))), (6, .p 6 0), (12, .p 12 0), (81, .s none (ks.map bV)), (82, .k (.int .i64 ((ks.length : Nat) : Int))), (83, .k (.int .i64 ((i : Nat) : Int)))]) (fun i L M (_u3 : Unit) (_u4 : Unit) => [(1000, .b [.mp 1001, .k (.int .i64 ((M : Nat) : Int))]), (1001, .m (mB E)), (6, .b [.k (.int .i64 0), .nil, .nil, .nil]), (12, .b [.k (.int .i64 k), bV p, bV v, .s (some 120) (L.map rnV)]), (120, .r 37 4 L.length)]) (fun i L M (_u3 : Unit) (_u4 : Unit) => i ≤ ks.length ∧ M ≤ 4096 ∧ L.length = i ∧ X = (L ++ (ldK g (ks.drop i) M).1, (ldK g (ks.drop i) M).2)) ((ks.length - ·)) (0) ([]) (m + 1) () () ⟨by omega, by omega, rfl, by rw [hX]; rfl⟩ ⟨rfl, rfl, rfl, rfl, rfl, rfl, rfl, trivial⟩ ⟨rfl, rfl, rfl, rfl, rfl, trivial⟩ rfl rfW rfW ?_
          rintro i L M _ _ ⟨hi, hMl, hLl, hXi⟩
          obtain ⟨f1, f2, f3, f4⟩ := fin i M L hi hXi
          clear hX hXi fin
          have z1 : ∀ e ∈ L.map rnV, e.cells.length = 4 := fun e he => by obtain ⟨x, _, rfl⟩ := List.mem_map.1 he; exact rnC_len x
          rcases Nat.lt_or_ge i ks.length with h | h
          · have hkl := b4 (ks.getD i default) (by rw [List.getD_eq_getElem?_getD, List.getElem?_eq_getElem h]; exact List.getElem_mem h)
            by_cases hz : (ks.getD i default).length = 0
            · have hok : i + 1 ≤ ks.length ∧ M ≤ 4096 ∧ (L ++ [Rn.no]).length = i + 1 ∧ X = ((L ++ [Rn.no]) ++ (ldK g (ks.drop (i + 1)) M).1, (ldK g (ks.drop (i + 1)) M).2) := ⟨h, hMl, by simp [hLl], f2 h hz⟩
              have hny : NilElts [.k (.int .i64 0), .nil, .nil, .nil] [.k (.int .i64 0), bV [], bV [], .s none []] := ⟨rfl⟩
              have hap : L.map rnV ++ [V.a [.k (.int .i64 0), bV [], bV [], .s none []]] = (L ++ [Rn.no]).map rnV := by
                rw [List.map_append, ← rnV_no]; rfl
              clear f1 f2 f3 f4 hgC b4
              exact wk trueW trueW trueW
            · have hq : (ks.getD i default).length = 32 := hkl.resolve_right hz
              obtain ⟨c2, hM2⟩ := hgC (ks.getD i default) M hq hMl
              unfold ldM at c2
              by_cases he : (g (ks.getD i default) M).2.1 = 0
              · have hok : i + 1 ≤ ks.length ∧ (g (ks.getD i default) M).2.2 ≤ 4096 ∧ (L ++ [(g (ks.getD i default) M).1]).length = i + 1 ∧ X = ((L ++ [(g (ks.getD i default) M).1]) ++ (ldK g (ks.drop (i + 1)) (g (ks.getD i default) M).2.2).1, (ldK g (ks.drop (i + 1)) (g (ks.getD i default) M).2.2).2) := ⟨h, hM2, by simp [hLl], f3 h hz he⟩
                have hk4 := rnC_len (g (ks.getD i default) M).1
                clear f1 f2 f3 f4 hgC b4
                generalize g (ks.getD i default) M = Y at *
                obtain ⟨y, e, M2⟩ := Y
                simp only at he hM2 hok c2 hk4
                subst he
                exact wk trueW trueW trueW
              · have hfin := f4 h hz he
                rw [hfin, rnV_no]
                have hk4 := rnC_len (g (ks.getD i default) M).1
                clear f1 f2 f3 f4 hgC b4 hfin
                generalize g (ks.getD i default) M = Y at *
                obtain ⟨y, e, M2⟩ := Y
                simp only at he hM2 c2 hk4 ⊢
                exact wk trueW trueW trueW
          · obtain rfl : i = ks.length := by omega
            rw [f1 rfl]
            simp only [rnV, rnC_eq]
            clear f1 f2 f3 f4 hgC b4
            exact wk trueW trueW trueW
        · refine LC.loop5 (fun i L M (_u3 : Unit) (_u4 : Unit) => [(0, .p 1000 0), (2, .k (.int .i64 ((D : Nat) : Int))), (6, .p 6 0), (12, .p 12 0), (81, .s none (ks.map bV)), (82, .k (.int .i64 ((ks.length : Nat) : Int))), (83, .k (.int .i64 ((i : Nat) : Int)))]) (fun i L M (_u3 : Unit) (_u4 : Unit) => [(1000, .b [.mp 1001, .k (.int .i64 ((M : Nat) : Int))]), (1001, .m (mB E)), (6, .b [.k (.int .i64 0), .nil, .nil, .nil]), (12, .b [.k (.int .i64 k), bV p, bV v, .s (some 120) (L.map rnV)]), (120, .r 37 4 L.length)]) (fun i L M (_u3 : Unit) (_u4 : Unit) => i ≤ ks.length ∧ M ≤ 4096 ∧ L.length = i ∧ X = (L ++ (ldK g (ks.drop i) M).1, (ldK g (ks.drop i) M).2)) ((ks.length - ·)) (0) ([]) (m + 1) () () ⟨by omega, by omega, rfl, by rw [hX]; rfl⟩ ⟨rfl, rfl, rfl, rfl, rfl, rfl, rfl, trivial⟩ ⟨rfl, rfl, rfl, rfl, rfl, trivial⟩ rfl rfW rfW ?_
          rintro i L M _ _ ⟨hi, hMl, hLl, hXi⟩
          obtain ⟨f1, f2, f3, f4⟩ := fin i M L hi hXi
          clear hX hXi fin
          have z1 : ∀ e ∈ L.map rnV, e.cells.length = 4 := fun e he => by obtain ⟨x, _, rfl⟩ := List.mem_map.1 he; exact rnC_len x
          rcases Nat.lt_or_ge i ks.length with h | h
          · have hkl := b4 (ks.getD i default) (by rw [List.getD_eq_getElem?_getD, List.getElem?_eq_getElem h]; exact List.getElem_mem h)
            by_cases hz : (ks.getD i default).length = 0
            · have hok : i + 1 ≤ ks.length ∧ M ≤ 4096 ∧ (L ++ [Rn.no]).length = i + 1 ∧ X = ((L ++ [Rn.no]) ++ (ldK g (ks.drop (i + 1)) M).1, (ldK g (ks.drop (i + 1)) M).2) := ⟨h, hMl, by simp [hLl], f2 h hz⟩
              have hny : NilElts [.k (.int .i64 0), .nil, .nil, .nil] [.k (.int .i64 0), bV [], bV [], .s none []] := ⟨rfl⟩
              have hap : L.map rnV ++ [V.a [.k (.int .i64 0), bV [], bV [], .s none []]] = (L ++ [Rn.no]).map rnV := by
                rw [List.map_append, ← rnV_no]; rfl
              clear f1 f2 f3 f4 hgC b4
              exact wk trueW trueW trueW
            · have hq : (ks.getD i default).length = 32 := hkl.resolve_right hz
              obtain ⟨c2, hM2⟩ := hgC (ks.getD i default) M hq hMl
              unfold ldM at c2
              by_cases he : (g (ks.getD i default) M).2.1 = 0
              · have hok : i + 1 ≤ ks.length ∧ (g (ks.getD i default) M).2.2 ≤ 4096 ∧ (L ++ [(g (ks.getD i default) M).1]).length = i + 1 ∧ X = ((L ++ [(g (ks.getD i default) M).1]) ++ (ldK g (ks.drop (i + 1)) (g (ks.getD i default) M).2.2).1, (ldK g (ks.drop (i + 1)) (g (ks.getD i default) M).2.2).2) := ⟨h, hM2, by simp [hLl], f3 h hz he⟩
                have hk4 := rnC_len (g (ks.getD i default) M).1
                clear f1 f2 f3 f4 hgC b4
                generalize g (ks.getD i default) M = Y at *
                obtain ⟨y, e, M2⟩ := Y
                simp only at he hM2 hok c2 hk4
                subst he
                exact wk trueW trueW trueW
              · have hfin := f4 h hz he
                rw [hfin, rnV_no]
                have hk4 := rnC_len (g (ks.getD i default) M).1
                clear f1 f2 f3 f4 hgC b4 hfin
                generalize g (ks.getD i default) M = Y at *
                obtain ⟨y, e, M2⟩ := Y
                simp only at he hM2 c2 hk4 ⊢
                exact wk trueW trueW trueW
          · obtain rfl : i = ks.length := by omega
            rw [f1 rfl]
            simp only [rnV, rnC_eq]
            clear f1 f2 f3 f4 hgC b4
            exact wk trueW trueW trueW
        · refine LC.loop5 (fun i L M (_u3 : Unit) (_u4 : Unit) => [(0, .p 1000 0), (2, .k (.int .i64 ((D : Nat) : Int))), (6, .p 6 0), (12, .p 12 0), (81, .s none (ks.map bV)), (82, .k (.int .i64 ((ks.length : Nat) : Int))), (83, .k (.int .i64 ((i : Nat) : Int)))]) (fun i L M (_u3 : Unit) (_u4 : Unit) => [(1000, .b [.mp 1001, .k (.int .i64 ((M : Nat) : Int))]), (1001, .m (mB E)), (6, .b [.k (.int .i64 0), .nil, .nil, .nil]), (12, .b [.k (.int .i64 k), bV p, bV v, .s (some 120) (L.map rnV)]), (120, .r 37 4 L.length)]) (fun i L M (_u3 : Unit) (_u4 : Unit) => i ≤ ks.length ∧ M ≤ 4096 ∧ L.length = i ∧ X = (L ++ (ldK g (ks.drop i) M).1, (ldK g (ks.drop i) M).2)) ((ks.length - ·)) (0) ([]) (m + 1) () () ⟨by omega, by omega, rfl, by rw [hX]; rfl⟩ ⟨rfl, rfl, rfl, rfl, rfl, rfl, rfl, trivial⟩ ⟨rfl, rfl, rfl, rfl, rfl, trivial⟩ rfl rfW rfW ?_
          rintro i L M _ _ ⟨hi, hMl, hLl, hXi⟩
          obtain ⟨f1, f2, f3, f4⟩ := fin i M L hi hXi
          clear hX hXi fin
          have z1 : ∀ e ∈ L.map rnV, e.cells.length = 4 := fun e he => by obtain ⟨x, _, rfl⟩ := List.mem_map.1 he; exact rnC_len x
          rcases Nat.lt_or_ge i ks.length with h | h
          · have hkl := b4 (ks.getD i default) (by rw [List.getD_eq_getElem?_getD, List.getElem?_eq_getElem h]; exact List.getElem_mem h)
            by_cases hz : (ks.getD i default).length = 0
            · have hok : i + 1 ≤ ks.length ∧ M ≤ 4096 ∧ (L ++ [Rn.no]).length = i + 1 ∧ X = ((L ++ [Rn.no]) ++ (ldK g (ks.drop (i + 1)) M).1, (ldK g (ks.drop (i + 1)) M).2) := ⟨h, hMl, by simp [hLl], f2 h hz⟩
              have hny : NilElts [.k (.int .i64 0), .nil, .nil, .nil] [.k (.int .i64 0), bV [], bV [], .s none []] := ⟨rfl⟩
              have hap : L.map rnV ++ [V.a [.k (.int .i64 0), bV [], bV [], .s none []]] = (L ++ [Rn.no]).map rnV := by
                rw [List.map_append, ← rnV_no]; rfl
              clear f1 f2 f3 f4 hgC b4
              exact wk trueW trueW trueW
            · have hq : (ks.getD i default).length = 32 := hkl.resolve_right hz
              obtain ⟨c2, hM2⟩ := hgC (ks.getD i default) M hq hMl
              unfold ldM at c2
              by_cases he : (g (ks.getD i default) M).2.1 = 0
              · have hok : i + 1 ≤ ks.length ∧ (g (ks.getD i default) M).2.2 ≤ 4096 ∧ (L ++ [(g (ks.getD i default) M).1]).length = i + 1 ∧ X = ((L ++ [(g (ks.getD i default) M).1]) ++ (ldK g (ks.drop (i + 1)) (g (ks.getD i default) M).2.2).1, (ldK g (ks.drop (i + 1)) (g (ks.getD i default) M).2.2).2) := ⟨h, hM2, by simp [hLl], f3 h hz he⟩
                have hk4 := rnC_len (g (ks.getD i default) M).1
                clear f1 f2 f3 f4 hgC b4
                generalize g (ks.getD i default) M = Y at *
                obtain ⟨y, e, M2⟩ := Y
                simp only at he hM2 hok c2 hk4
                subst he
                exact wk trueW trueW trueW
              · have hfin := f4 h hz he
                rw [hfin, rnV_no]
                have hk4 := rnC_len (g (ks.getD i default) M).1
                clear f1 f2 f3 f4 hgC b4 hfin
                generalize g (ks.getD i default) M = Y at *
                obtain ⟨y, e, M2⟩ := Y
                simp only at he hM2 c2 hk4 ⊢
                exact wk trueW trueW trueW
          · obtain rfl : i = ks.length := by omega
            rw [f1 rfl]
            simp only [rnV, rnC_eq]
            clear f1 f2 f3 f4 hgC b4
            exact wk trueW trueW trueW
end Rw
end Lf
open Go.RowKit Rg Wm Ar
set_option linter.unusedVariables false
set_option maxRecDepth 100000
namespace Lf
open Tr Ro Pk
theorem node_at {E : EntB} {f : Nat} (hC : NodeC E f) {h : List UInt8} {deep m : Nat} (h1 : h.length = 32) (h2 : 65 ≤ deep + f) (h3 : deep < 100000000) (h4 : m ≤ 4096) {i j : Nat} (hij : i ≠ j) :
    LM Try.prog 51 [.p i 0, hashV h, .k (.int .i64 (deep : Int))] (ldM i j E m) fun o mm => o = .ret (.t [rnV (ld (byE E) f h deep m).1, .k (.int .i64 ((ld (byE E) f h deep m).2.1 : Int))]) ∧ mm = ldM i j E (ld (byE E) f h deep m).2.2 :=
  LM.gen [1000, 1001] [i, j] (by simp) (by simpa using hij) rfl (hC h deep m h1 h2 h3 h4) fun ρ hρ => by
    simp at hρ
    obtain ⟨e1, e2⟩ := hρ
    have hr : ∀ x : Rn, (rnV x).ren ρ.f = rnV x := fun x => ren_refs (rnV x) (rnC_refs [] x)
    refine ⟨?_, ?_, ?_, ?_⟩
    · show [V.p (ρ.f 1000) 0, (hashV h).ren ρ.f, _] = _
      rw [e1, ren_refs (hashV h) (by simp only [V.refs, refs_mapb])]
      rfl
    · simp [ldM, Mem.ren, M.ren, V.ren, e1, e2]
    · show Out.ret (.t [(rnV _).ren ρ.f, _]) = _
      rw [hr]; rfl
    · simp [ldM, Mem.ren, M.ren, V.ren, e1, e2]
def loadR (h : List UInt8) (cs : List (List UInt8)) : Rn × Nat :=
  if (ld (byS sumB cs) 65 h 0 0).2.1 = 0 then (if rt (ld (byS sumB cs) 65 h 0 0).1 0 = true then ((ld (byS sumB cs) 65 h 0 0).1, 0) else (.no, 1)) else (.no, (ld (byS sumB cs) 65 h 0 0).2.1)
theorem byS_take {S : List UInt8 → List UInt8} {cs : List (List UInt8)} {i : Nat} (h : i < cs.length) (k : List UInt8) : byS S (cs.take (i + 1)) k = match byS S (cs.take i) k with
    | some c => some c
    | none => if S (cs.getD i default) = k then some (cs.getD i default) else none := by
  unfold byS
  rw [List.take_succ_eq_append_getElem h, List.find?_append, List.getD_eq_getElem?_getD, List.getElem?_eq_getElem h, Option.getD_some]
  cases (cs.take i).find? fun c => decide (S c = k) with
  | some c => rfl
  | none =>
    simp only [Option.none_or]
    rw [List.find?_cons]
    by_cases e : S cs[i] = k
    · rw [decide_eq_true e, if_pos e]
    · rw [decide_eq_false e, if_neg e]; rfl
theorem byE_app {E : EntB} {a b k : List UInt8} : byE (E ++ [(a, b)]) k = match byE E k with
    | some c => some c
    | none => if a = k then some b else none := by
  unfold byE
  rw [List.find?_append]
  cases E.find? fun p => decide (p.1 = k) with
  | some c => rfl
  | none =>
    simp only [Option.none_or, Option.map_none]
    rw [List.find?_cons]
    by_cases e : a = k
    · rw [show decide ((a, b).1 = k) = true from decide_eq_true e, if_pos e]; rfl
    · rw [show decide ((a, b).1 = k) = false from decide_eq_false e, if_neg e]; rfl
namespace Rw
set_option maxHeartbeats 8000000 in
theorem Load_ (h : List UInt8) (cs : List (List UInt8)) (hh : h.length = 32) (hn : cs.length < 3000000) (ht : ∀ t ∈ cs, t.length < 3000000) : LF Try.prog 18 [hashV h, txV cs] (fun _ => .t [rnV (loadR h cs).1, .k (.int .i64 ((loadR h cs).2 : Int))]) none := by
  have hM := mapTyB
  have hrf := rnC_refs
  obtain ⟨Y, hY⟩ : ∃ Y, Y = loadR h cs := ⟨_, rfl⟩
  rw [← hY]
  refine LFx.mk' tt Try.func18 rfl rfl rfl (by kernel_rfl) rfl rfl fun F => ?_
  refine wk ?_ trueW trueW
  refine LC.loop2 (fun i E => [(2, .p 2 0), (4, .p 4 0), (6, .p 6 0), (16, .s none (cs.map bV)), (17, .k (.int .i64 ((cs.length : Nat) : Int))), (18, .k (.int .i64 ((i : Nat) : Int)))]) (fun i E => [(2, .b (h.map bK)), (4, .b [.k (.int .i64 0), .nil, .nil, .nil]), (6, .b [.mp 14, .k (.int .i64 0)]), (14, .m (mB E))]) (fun i E => i ≤ cs.length ∧ EntOk E ∧ (∀ k, byE E k = byS sumB (cs.take i) k)) ((cs.length - ·)) (0) ([]) ⟨by omega, ⟨by simp, by simp, by simp⟩, fun k => rfl⟩ ⟨rfl, rfl, rfl, rfl, rfl, rfl, trivial⟩ ⟨rfl, rfl, rfl, rfl, trivial⟩ rfl rfW rfW ?_
  rintro i E ⟨hi, hE, hby⟩
  have hkk := bks hE
  rcases Nat.lt_or_ge i cs.length with hlt | hge
  · have hmem : cs.getD i default ∈ cs := by rw [List.getD_eq_getElem?_getD, List.getElem?_eq_getElem hlt]; exact List.getElem_mem hlt
    have htl := ht _ hmem
    have c1 := Sp.Sum (cs.getD i default) (by omega)
    have hsl := sumB_len (cs.getD i default)
    have hkey := keyH hsl
    cases hb : byE E (sumB (cs.getD i default)) with
    | some c =>
      have hget := bget_yes hE (byE_some hb)
      have hok : i + 1 ≤ cs.length ∧ EntOk E ∧ (∀ k, byE E k = byS sumB (cs.take (i + 1)) k) := ⟨hlt, hE, fun k => by
        rw [byS_take hlt, ← hby k]
        cases hk : byE E k with
        | some c => rfl
        | none =>
          simp only []
          rw [if_neg]
          intro e
          rw [e, hk] at hb
          cases hb⟩
      clear hE hby hb hY
      generalize sumB (cs.getD i default) = SS at *
      exact wk trueW trueW trueW
    | none =>
      have hnn := byE_none hb
      have hget := bget_no hnn
      have hno := bno hnn
      have hsn := mB_snoc E (sumB (cs.getD i default)) (cs.getD i default)
      have hok : i + 1 ≤ cs.length ∧ EntOk (E ++ [(sumB (cs.getD i default), cs.getD i default)]) ∧ (∀ k, byE (E ++ [(sumB (cs.getD i default), cs.getD i default)]) k = byS sumB (cs.take (i + 1)) k) := ⟨hlt, ⟨fun p hp q hq e => by
        rcases List.mem_append.1 hp with hp | hp <;> rcases List.mem_append.1 hq with hq | hq
        · exact hE.one p hp q hq e
        · rw [List.mem_singleton] at hq; subst hq; exact absurd e (hnn p hp)
        · rw [List.mem_singleton] at hp; subst hp; exact absurd e.symm (hnn q hq)
        · rw [List.mem_singleton] at hp hq; rw [hp, hq], fun p hp => by
        rcases List.mem_append.1 hp with hp | hp
        · exact hE.len p hp
        · rw [List.mem_singleton] at hp; subst hp; exact hsl, fun p hp => by
        rcases List.mem_append.1 hp with hp | hp
        · exact hE.val p hp
        · rw [List.mem_singleton] at hp; subst hp; exact htl⟩, fun k => by rw [byE_app, byS_take hlt, ← hby k]⟩
      clear hE hby hb hY hnn
      generalize sumB (cs.getD i default) = SS at *
      exact wk trueW trueW trueW
  · obtain rfl : i = cs.length := by omega
    rw [List.take_length] at hby
    have hbE : byE E = byS sumB cs := funext hby
    have c1 := node_at (node_ E hE 65) hh (deep := 0) (m := 0) (by omega) (by omega) (by omega) (i := 6) (j := 14) (by decide)
    have hbd := (ld_bound (by_ := byE E) (B := 3000000) (fun h c e => Nat.le_of_lt (hE.val _ (byE_some e))) 65 h 0 0 (by omega))
    rw [hbE] at c1 hbd
    unfold loadR at hY
    generalize ld (byS sumB cs) 65 h 0 0 = X at *
    obtain ⟨x, e, m⟩ := X
    simp only at c1 hbd hY
    have c2 := Te.RightL_ x (by omega)
    have hk4 := rnC_len x
    unfold ldM at c1
    clear hE hby hbE hbd
    by_cases he : e = 0
    · subst he
      rw [if_pos rfl] at hY
      cases hrt : rt x 0 with
      | true =>
        rw [hrt] at c2
        rw [if_pos hrt] at hY
        subst hY
        clear hrt
        exact wk trueW trueW trueW
      | false =>
        rw [hrt] at c2
        rw [if_neg (by rw [hrt]; decide)] at hY
        subst hY
        clear hrt
        simp only []
        rw [rnV_no]
        exact wk trueW trueW trueW
    · rw [if_neg he] at hY
      subst hY
      simp only []
      rw [rnV_no]
      clear c2
      exact wk trueW trueW trueW
end Rw
end Lf
open Go.RowKit Rg
namespace Lf
theorem rotN {n k : Nat} (hn : n < 2 ^ 64) (hk : k ≤ 64) : (n * 2 ^ k % 2 ^ 64 ||| n / 2 ^ (64 - k)) = (n % 2 ^ (64 - k)) * 2 ^ k + n / 2 ^ (64 - k) := by
  have e0 : (2 : Nat) ^ 64 = 2 ^ (64 - k) * 2 ^ k := by rw [← Nat.pow_add]; congr 1; omega
  have e : n * 2 ^ k % 2 ^ 64 = (n % 2 ^ (64 - k)) * 2 ^ k := by rw [e0, Nat.mul_mod_mul_right]
  have hq : n / 2 ^ (64 - k) < 2 ^ k := Nat.div_lt_of_lt_mul (by rw [← e0]; exact hn)
  rw [e]
  have := Nat.shiftLeft_add_eq_or_of_lt hq (n % 2 ^ (64 - k))
  rw [Nat.shiftLeft_eq] at this
  exact this.symm
theorem turn_arith {A B n : Nat} (hA : 0 < A) (hn : n < 2 * (A * B)) : (n % A) * (2 * B) + n / A = ((n % (2 * A)) * B + n / (2 * A)) * 2 % (2 * (A * B)) + ((n % (2 * A)) * B + n / (2 * A)) / (A * B) := by
  have e1 : n / (2 * A) = n / A / 2 := by rw [Nat.div_div_eq_div_mul, Nat.mul_comm]
  have e2 : n % (2 * A) = n % A + A * (n / A % 2) := by rw [Nat.mul_comm, Nat.mod_mul]
  rw [e1, e2]
  have hr := Nat.mod_lt n hA
  have hm : n / A < 2 * B := Nat.div_lt_of_lt_mul (by rw [show A * (2 * B) = 2 * (A * B) from by rw [Nat.mul_left_comm]]; exact hn)
  have hu : (n % A) * B + B ≤ A * B := by
    have := Nat.mul_le_mul_right B (show n % A + 1 ≤ A from hr)
    rwa [Nat.add_mul, Nat.one_mul] at this
  have e3 : (n % A + A * (n / A % 2)) * B = (n % A) * B + (A * B) * (n / A % 2) := by
    rw [Nat.add_mul, Nat.mul_assoc, Nat.mul_comm (n / A % 2) B, ← Nat.mul_assoc]
  have e4 : (n % A) * (2 * B) = 2 * ((n % A) * B) := by rw [Nat.mul_left_comm]
  rw [e3, e4]
  generalize (n % A) * B = u at *
  generalize n / A = m at *
  generalize A * B = C at *
  have h2 := Nat.mod_two_eq_zero_or_one m
  have hC : u + m / 2 < C := by omega
  rcases h2 with h | h
  · rw [h, Nat.mul_zero, Nat.add_zero, Nat.div_eq_of_lt hC, Nat.mod_eq_of_lt (by omega)]
    omega
  · rw [h, Nat.mul_one]
    have e5 : (u + C + m / 2) * 2 % (2 * C) = (u + m / 2) * 2 := by
      rw [show (u + C + m / 2) * 2 = (u + m / 2) * 2 + 2 * C from by omega, Nat.add_mod_right, Nat.mod_eq_of_lt (by omega)]
    have e6 : (u + C + m / 2) / C = 1 := by
      rw [show u + C + m / 2 = (u + m / 2) + C from by omega, Nat.add_div_right _ (by omega), Nat.div_eq_of_lt hC]
    rw [e5, e6]
    omega
theorem rotl_zero (x : UInt64) : (rotl x 0).toNat = x.toNat := by
  have h := x.toNat_lt
  rw [rotl_toNat, rotN h (by omega), Nat.sub_zero, Nat.pow_zero, Nat.mul_one, Nat.mod_eq_of_lt h, Nat.div_eq_of_lt h, Nat.add_zero]
theorem rotl_succ (x : UInt64) {k : Nat} (hk : k + 1 < 64) : (rotl x (k + 1)).toNat = (rotl x k).toNat * 2 % 2 ^ 64 + (rotl x k).toNat / 2 ^ 63 := by
  have h := x.toNat_lt
  rw [rotl_toNat, rotl_toNat, rotN h (by omega), rotN h (by omega)]
  have e1 : (2 : Nat) ^ (64 - k) = 2 * 2 ^ (63 - k) := by rw [show 64 - k = (63 - k) + 1 from by omega, Nat.pow_succ, Nat.mul_comm]
  have e2 : 64 - (k + 1) = 63 - k := by omega
  have e3 : (2 : Nat) ^ (k + 1) = 2 * 2 ^ k := by rw [Nat.pow_succ, Nat.mul_comm]
  have e4 : (2 : Nat) ^ 63 = 2 ^ (63 - k) * 2 ^ k := by rw [← Nat.pow_add]; congr 1; omega
  have e5 : (2 : Nat) ^ 64 = 2 * (2 ^ (63 - k) * 2 ^ k) := by rw [← e4]
  rw [e2, e1, e3, e4]
  conv => rhs; arg 1; rw [e5]
  exact turn_arith (Nat.two_pow_pos _) (by rw [← e5]; exact h)
theorem or_xor {x y i : Nat} (hx : x < 2 ^ i) : x ||| y * 2 ^ i = x ^^^ y * 2 ^ i := by
  apply Nat.eq_of_testBit_eq
  intro j
  rw [Nat.testBit_or, Nat.testBit_xor, Nat.testBit_mul_two_pow]
  by_cases h : i ≤ j
  · rw [Nat.testBit_lt_two_pow (Nat.lt_of_lt_of_le hx (Nat.pow_le_pow_right (by omega) h))]
    simp
  · simp [h]
def byteAt (b : UInt8) (i : Nat) : UInt64 := UInt64.ofNat (b.toNat * 2 ^ (8 * i) % 2 ^ 64)
def xorStep (l : List UInt8) (x : UInt64) (i : Nat) : UInt64 := x ^^^ byteAt (l.getD i default) i
theorem read_xor (l : List UInt8) : ∀ i, i ≤ 8 → iter (readStep l) 0 i = iter (xorStep l) 0 i ∧ (iter (readStep l) 0 i).toNat < 2 ^ (8 * i)
  | 0, _ => ⟨rfl, (by decide : (0 : UInt64).toNat < 2 ^ (8 * 0))⟩
  | i + 1, h => by
    obtain ⟨h1, h2⟩ := read_xor l i (by omega)
    have hb := (l.getD i default).toNat_lt
    have hlt : (l.getD i default).toNat * 2 ^ (8 * i) < 2 ^ (8 * (i + 1)) := by
      rw [show 8 * (i + 1) = 8 + 8 * i from by omega, Nat.pow_add]
      exact Nat.mul_lt_mul_of_pos_right (by simpa using hb) (Nat.two_pow_pos _)
    have hle : (2 : Nat) ^ (8 * (i + 1)) ≤ 2 ^ 64 := Nat.pow_le_pow_right (by omega) (by omega)
    have e : (byteAt (l.getD i default) i).toNat = (l.getD i default).toNat * 2 ^ (8 * i) := by
      unfold byteAt
      rw [Nat.mod_eq_of_lt (by omega)]
      exact UInt64.toNat_ofNat_of_lt (by show _ < 18446744073709551616; omega)
    have e0 : iter (readStep l) 0 (i + 1) = iter (readStep l) 0 i ||| byteAt (l.getD i default) i := rfl
    constructor
    · rw [e0]
      show _ = iter (xorStep l) 0 i ^^^ byteAt (l.getD i default) i
      rw [← h1]
      apply UInt64.toNat_inj.1
      rw [UInt64.toNat_or, UInt64.toNat_xor, e]
      exact or_xor h2
    · rw [e0, UInt64.toNat_or, e]
      exact Nat.or_lt_two_pow (Nat.lt_of_lt_of_le h2 (Nat.pow_le_pow_right (by omega) (by omega))) hlt
theorem readQ_xor (l : List UInt8) : readQ l = iter (xorStep l) 0 8 := by rw [readQ_eq]; exact (read_xor l 8 (by omega)).1
theorem iter_add {σ : Type} (f : σ → Nat → σ) (s : σ) (m : Nat) : ∀ n, iter f s (m + n) = iter (fun s i => f s (m + i)) (iter f s m) n
  | 0 => rfl
  | n + 1 => by
    show f (iter f s (m + n)) (m + n) = f (iter (fun s i => f s (m + i)) (iter f s m) n) (m + n)
    rw [iter_add f s m n]
theorem iter_congr {σ : Type} {f g : σ → Nat → σ} {s : σ} : ∀ {n : Nat}, (∀ s i, i < n → f s i = g s i) → iter f s n = iter g s n
  | 0, _ => rfl
  | n + 1, h => by
    show f (iter f s n) n = g (iter g s n) n
    rw [iter_congr (n := n) fun s i hi => h s i (by omega), h _ n (by omega)]
def absB (p : List UInt8) (at_ : Nat) (S : List UInt64) (k : Nat) : List UInt64 := S.set (k / 8) (S.getD (k / 8) default ^^^ UInt64.ofNat ((p.getD (at_ + k) default).toNat * 2 ^ (k % 8 * 8) % 2 ^ 64))
theorem absB_len (p : List UInt8) (a : Nat) (S : List UInt64) (k : Nat) : (absB p a S k).length = S.length := by simp [absB]
theorem set_set' {S : List UInt64} {j : Nat} {x y : UInt64} : (S.set j x).set j y = S.set j y := List.set_set ..
theorem abs_part (p : List UInt8) (a : Nat) {S : List UInt64} {j : Nat} (hS : S.length = 8) (hj : j < 4) : ∀ i, i ≤ 8 → iter (fun s i => absB p a s (8 * j + i)) S i = S.set j (S.getD j default ^^^ iter (xorStep ((((p.drop a).take 32).drop (8 * j)).take (32 - 8 * j))) 0 i)
  | 0, _ => by
    show S = S.set j (S.getD j default ^^^ 0)
    rw [UInt64.xor_zero, set_get]
  | i + 1, h => by
    show absB p a (iter (fun s i => absB p a s (8 * j + i)) S i) (8 * j + i) = _
    rw [abs_part p a hS hj i (by omega)]
    unfold absB
    have e1 : (8 * j + i) / 8 = j := by omega
    have e2 : (8 * j + i) % 8 * 8 = 8 * i := by omega
    rw [e1, e2, getD_set (by omega), set_set']
    congr 1
    show _ = S.getD j default ^^^ (iter (xorStep ((((p.drop a).take 32).drop (8 * j)).take (32 - 8 * j))) 0 i ^^^ byteAt (((((p.drop a).take 32).drop (8 * j)).take (32 - 8 * j)).getD i default) i)
    rw [← UInt64.xor_assoc]
    congr 1
    unfold byteAt
    have e3 : ((((p.drop a).take 32).drop (8 * j)).take (32 - 8 * j)).getD i default = p.getD (a + (8 * j + i)) default := by
      simp only [List.getD_eq_getElem?_getD, List.getElem?_take, List.getElem?_drop]
      rw [if_pos (by omega), if_pos (by omega)]
    rw [e3]
theorem abs_all (p : List UInt8) (a : Nat) {S : List UInt64} (hS : S.length = 8) : iter (absB p a) S 32 = iter (xorIn ((p.drop a).take 32)) S 4 := by
  have step : ∀ (S : List UInt64) j, S.length = 8 → j < 4 → iter (fun s i => absB p a s (8 * j + i)) S 8 = xorIn ((p.drop a).take 32) S j := fun S j hS hj => by
    rw [abs_part p a hS hj 8 (by omega), ← readQ_xor]; rfl
  rw [show 32 = 8 + 24 from rfl, iter_add, show 24 = 8 + 16 from rfl, iter_add, show 16 = 8 + 8 from rfl, iter_add]
  have l0 : iter (absB p a) S 8 = xorIn ((p.drop a).take 32) S 0 := by
    rw [← step S 0 hS (by omega)]
    exact iter_congr fun s i _ => by rw [Nat.mul_zero, Nat.zero_add]
  have l1 : iter (fun s i => absB p a s (8 + i)) (iter (absB p a) S 8) 8 = xorIn ((p.drop a).take 32) (xorIn ((p.drop a).take 32) S 0) 1 := by
    rw [l0, ← step _ 1 (by rw [xorIn_len]; exact hS) (by omega)]
  have l2 : iter (fun s i => absB p a s (8 + (8 + i))) (iter (fun s i => absB p a s (8 + i)) (iter (absB p a) S 8) 8) 8 = xorIn ((p.drop a).take 32) (xorIn ((p.drop a).take 32) (xorIn ((p.drop a).take 32) S 0) 1) 2 := by
    rw [l1, ← step _ 2 (by rw [xorIn_len, xorIn_len]; exact hS) (by omega)]
    exact iter_congr fun s i _ => by rw [show 8 + (8 + i) = 8 * 2 + i from by omega]
  rw [l2]
  have l3 := step (xorIn ((p.drop a).take 32) (xorIn ((p.drop a).take 32) (xorIn ((p.drop a).take 32) S 0) 1) 2) 3 (by rw [xorIn_len, xorIn_len, xorIn_len]; exact hS) (by omega)
  have l4 : iter (fun s i => absB p a s (8 + (8 + (8 + i)))) (xorIn ((p.drop a).take 32) (xorIn ((p.drop a).take 32) (xorIn ((p.drop a).take 32) S 0) 1) 2) 8 = xorIn ((p.drop a).take 32) (xorIn ((p.drop a).take 32) (xorIn ((p.drop a).take 32) (xorIn ((p.drop a).take 32) S 0) 1) 2) 3 := by
    rw [← l3]
    exact iter_congr fun s i _ => by rw [show 8 + (8 + (8 + i)) = 8 * 3 + i from by omega]
  exact l4
theorem takeH_eq (h : Hs) (x : UInt8) : takeH h x = if h.n + 1 < 32 then ⟨h.st, h.pt.set h.n x, h.n + 1⟩ else ⟨mixQ (iter (xorIn (h.pt.set h.n x)) h.st 4), h.pt.set h.n x, 0⟩ := by unfold takeH; rfl
theorem writeH_nil (h : Hs) : writeH h [] = h := by unfold writeH; rfl
theorem writeH_snoc (h : Hs) (l : List UInt8) (x : UInt8) : writeH h (l ++ [x]) = takeH (writeH h l) x := by unfold writeH; rw [List.foldl_append]; rfl
theorem write_part {S : List UInt64} {P B : List UInt8} (hP : P.length = 32) (hB : B.length = 32) : ∀ m, m ≤ 31 → writeH ⟨S, P, 0⟩ (B.take m) = ⟨S, B.take m ++ P.drop m, m⟩
  | 0, _ => writeH_nil _
  | m + 1, h => by
    have hm : m < B.length := by omega
    rw [List.take_succ_eq_append_getElem hm, writeH_snoc, write_part hP hB m (by omega), takeH_eq, if_pos (by show m + 1 < 32; omega)]
    congr 1
    show (B.take m ++ P.drop m).set m B[m] = B.take m ++ [B[m]] ++ P.drop (m + 1)
    have hl : (B.take m).length = m := by rw [List.length_take]; omega
    have hp : m < P.length := by omega
    rw [List.set_append_right _ _ (by omega), hl, Nat.sub_self, List.drop_eq_getElem_cons hp, List.set_cons_zero, List.append_assoc]
    rfl
theorem write_block {S : List UInt64} {P B : List UInt8} (hP : P.length = 32) (hB : B.length = 32) : writeH ⟨S, P, 0⟩ B = ⟨mixQ (iter (xorIn B) S 4), B, 0⟩ := by
  have hm : 31 < B.length := by omega
  have e : B = B.take 31 ++ [B[31]] := by
    have := List.take_succ_eq_append_getElem hm
    rw [← this, List.take_of_length_le (by omega)]
  have hl : (B.take 31).length = 31 := by rw [List.length_take]; omega
  have e2 : (B.take 31 ++ P.drop 31).set 31 B[31] = B := by
    have hp : 31 < P.length := by omega
    rw [List.set_append_right _ _ (by omega), hl, Nat.sub_self, List.drop_eq_getElem_cons hp, List.set_cons_zero, List.drop_of_length_le (by omega)]
    exact e.symm
  have h1 : writeH ⟨S, P, 0⟩ B = takeH (writeH ⟨S, P, 0⟩ (B.take 31)) B[31] := by
    rw [← writeH_snoc, ← e]
  rw [h1, write_part hP hB 31 (by omega), takeH_eq, if_neg (by show ¬ 31 + 1 < 32; omega)]
  simp only [e2]
def blkQ (p : List UInt8) (S : List UInt64) (i : Nat) : List UInt64 := mixQ (iter (absB p (32 * i)) S 32)
theorem blkQ_len (p : List UInt8) (S : List UInt64) (i : Nat) : (blkQ p S i).length = S.length := by unfold blkQ; rw [mixQ_len, iter_len (absB_len p _)]
theorem writeH_app' (h : Hs) (a b : List UInt8) : writeH h (a ++ b) = writeH (writeH h a) b := by unfold writeH; rw [List.foldl_append]
theorem write_blocks {p : List UInt8} {m : Nat} (hp : p.length = 32 * m) : ∀ i, i ≤ m → ∃ P : List UInt8, P.length = 32 ∧ writeH hs0 (p.take (32 * i)) = ⟨iter (blkQ p) (List.replicate 8 0) i, P, 0⟩
  | 0, _ => ⟨List.replicate 32 0, rfl, writeH_nil _⟩
  | i + 1, h => by
    obtain ⟨P, h1, h2⟩ := write_blocks hp i (by omega)
    have hB : ((p.drop (32 * i)).take 32).length = 32 := by rw [List.length_take, List.length_drop]; omega
    have e : p.take (32 * (i + 1)) = p.take (32 * i) ++ (p.drop (32 * i)).take 32 := by rw [show 32 * (i + 1) = 32 * i + 32 from by omega, List.take_add]
    refine ⟨(p.drop (32 * i)).take 32, hB, ?_⟩
    rw [e, writeH_app', h2, write_block h1 hB, ← abs_all p (32 * i) ((iter_len (blkQ_len p) _ i).trans rfl)]
    rfl
theorem writeH_n : ∀ (l : List UInt8), (writeH hs0 l).n = l.length % 32 := by
  intro l
  have : ∀ k, k ≤ l.length → (writeH hs0 (l.take k)).n = k % 32 := by
    intro k
    induction k with
    | zero => intro _; rw [List.take_zero, writeH_nil]; rfl
    | succ k ih =>
      intro h
      have hk : k < l.length := h
      rw [List.take_succ_eq_append_getElem hk, writeH_snoc, takeH_eq]
      have h1 := ih (by omega)
      split
      · show (writeH hs0 (l.take k)).n + 1 = _
        omega
      · show 0 = _
        omega
  have h := this l.length (Nat.le_refl _)
  rwa [List.take_length] at h
theorem padN_eq (h : Hs) (i : Nat) : padN h i = writeH h (List.replicate i 0) := by
  unfold padN
  induction i with
  | zero => exact (writeH_nil h).symm
  | succ i ih =>
    rw [List.replicate_succ', writeH_snoc, ← ih]
    rfl
theorem sumB_pad (b : List UInt8) : sumB b = outQ (writeH hs0 (padB b)).st := by
  have e1 : sumB b = sumH (writeH hs0 b) := by unfold sumB; rfl
  have e2 : ∀ h, sumH h = outQ (takeH (padH h) 128).st := fun h => by unfold sumH; rfl
  have e3 : ∀ h, padH h = padN (takeH h 1) (31 - (takeH h 1).n) := fun h => by unfold padH; rfl
  have hn : (takeH (writeH hs0 b) 1).n = (b.length + 1) % 32 := by
    rw [← writeH_snoc, writeH_n, List.length_append]; rfl
  have e5 : padB b = b ++ [1] ++ List.replicate (31 - (b.length + 1) % 32) 0 ++ [128] := by unfold padB padZ; rfl
  rw [e5, e1, e2, e3, hn, padN_eq, ← writeH_snoc hs0 b 1, ← writeH_app' hs0 (b ++ [1]), ← writeH_snoc hs0 _ 128]
def stR (p : List UInt8) (i : Nat) : List UInt64 := iter (blkQ p) (List.replicate 8 0) i
def outStep (S : List UInt64) (L : List UInt8) (k : Nat) : List UInt8 := L.set k (UInt8.ofNat ((S.getD (k / 8) default).toNat / 2 ^ (k % 8 * 8)))
theorem outStep_len (S : List UInt64) (L : List UInt8) (k : Nat) : (outStep S L k).length = L.length := by simp [outStep]
theorem wrQ_eq' (st : List UInt64) (L : List UInt8) (j : Nat) : wrQ st L j = iter (wr8 (st.getD j default) (8 * j)) L 8 := by unfold wrQ; rfl
theorem outQ_step (S : List UInt64) : outQ S = iter (outStep S) (List.replicate 32 0) 32 := by
  have e0 : outQ S = iter (wrQ S) (List.replicate 32 0) 4 := by unfold outQ; rfl
  have step : ∀ L j, wrQ S L j = iter (fun L i => outStep S L (8 * j + i)) L 8 := fun L j => by
    rw [wrQ_eq']
    exact iter_congr fun L i hi => by
      unfold wr8 outStep
      rw [show (8 * j + i) / 8 = j from by omega, show (8 * j + i) % 8 * 8 = 8 * i from by omega]
  have f0 : ∀ L : List UInt8, iter (outStep S) L 8 = wrQ S L 0 := fun L => by rw [step]; exact iter_congr fun s i _ => by rw [Nat.mul_zero, Nat.zero_add]
  have f1 : ∀ L : List UInt8, iter (fun L i => outStep S L (8 + i)) L 8 = wrQ S L 1 := fun L => by rw [step]
  have f2 : ∀ L : List UInt8, iter (fun L i => outStep S L (8 + (8 + i))) L 8 = wrQ S L 2 := fun L => by rw [step]; exact iter_congr fun s i _ => by rw [show 8 + (8 + i) = 8 * 2 + i from by omega]
  have f3 : ∀ L : List UInt8, iter (fun L i => outStep S L (8 + (8 + (8 + i)))) L 8 = wrQ S L 3 := fun L => by rw [step]; exact iter_congr fun s i _ => by rw [show 8 + (8 + (8 + i)) = 8 * 3 + i from by omega]
  rw [e0, show 32 = 8 + 24 from rfl, iter_add, show 24 = 8 + 16 from rfl, iter_add, show 16 = 8 + 8 from rfl, iter_add, f0, f1, f2, f3]
  rfl
theorem sumB_ref (b : List UInt8) {m : Nat} (hm : (padB b).length = 32 * m) : sumB b = iter (outStep (stR (padB b) m)) (List.replicate 32 0) 32 := by
  rw [← outQ_step, sumB_pad]
  obtain ⟨P, _, h⟩ := write_blocks hm m (Nat.le_refl _)
  rw [List.take_of_length_le (by omega)] at h
  rw [h]
  rfl
end Lf
end Go.Proofs.Ytkbimhccaacobaa

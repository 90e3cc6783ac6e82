/- A part of the proof: texts joined. -/
import Derived.Test.YtkbimhccaacobaaQ21e0de88
namespace Go.Proofs.Ytkbimhccaacobaa
open Go.RowKit Rg Wm Ar
set_option linter.unusedVariables false
set_option maxRecDepth 100000
namespace Lf
open Tr Ro Pk
theorem mapTyB : MapTy Try.prog 105 34 (.slice none 0 0) := ⟨⟨22, by kernel_rfl, fun w => by kernel_rfl⟩, lawH⟩
abbrev EntB := List (List UInt8 × List UInt8)
def mB (E : EntB) : List (Value × V) := E.map fun p => (hashK p.1, bV p.2)
def byE (E : EntB) (h : List UInt8) : Option (List UInt8) := (E.find? fun p => decide (p.1 = h)).map (·.2)
structure EntOk (E : EntB) : Prop where
  one : ∀ p ∈ E, ∀ q ∈ E, p.1 = q.1 → p = q
  len : ∀ p ∈ E, p.1.length = 32
  val : ∀ p ∈ E, p.2.length < 3000000
theorem byE_none {E : EntB} {h : List UInt8} (e : byE E h = none) : ∀ p ∈ E, p.1 ≠ h := by
  unfold byE at e
  rw [Option.map_eq_none_iff, List.find?_eq_none] at e
  intro p hp hh
  exact e p hp (decide_eq_true hh)
theorem byE_some {E : EntB} {h c : List UInt8} (e : byE E h = some c) : (h, c) ∈ E := by
  unfold byE at e
  obtain ⟨p, hp, rfl⟩ := Option.map_eq_some_iff.1 e
  have h1 := List.find?_some hp
  have h2 := List.mem_of_find?_eq_some hp
  have : p.1 = h := of_decide_eq_true h1
  rw [← this]; exact h2
theorem bget_no {E : EntB} {h : List UInt8} (hn : ∀ p ∈ E, p.1 ≠ h) : MGetO (mB E) (hashK h) (.s none []) (.s none []) false := ⟨fun _ => ⟨rfl, rfl⟩, fun p hp e => by
  obtain ⟨q, hq, rfl⟩ := List.mem_map.1 hp
  exact absurd (hashK_inj e) (hn q hq)⟩
theorem bget_yes {E : EntB} {h c : List UInt8} (hE : EntOk E) (hm : (h, c) ∈ E) : MGetO (mB E) (hashK h) (.s none []) (bV c) true := ⟨fun h1 => absurd rfl (h1 (hashK h, bV c) (List.mem_map.2 ⟨(h, c), hm, rfl⟩)), fun p hp e => by
  obtain ⟨q, hq, rfl⟩ := List.mem_map.1 hp
  have e2 := hashK_inj e
  have := hE.one q hq (h, c) hm e2
  subst this
  exact ⟨rfl, rfl⟩⟩
theorem bks {E : EntB} (h : EntOk E) : KeysV Try.prog 34 (mB E) := ⟨fun p hp => by
  obtain ⟨q, hq, rfl⟩ := List.mem_map.1 hp
  exact key_hashK (h.len q hq)⟩
theorem bno {E : EntB} {h : List UInt8} (hn : ∀ p ∈ E, p.1 ≠ h) : MNo (mB E) (hashK h) := ⟨fun p hp e => by
  obtain ⟨q, hq, rfl⟩ := List.mem_map.1 hp
  exact hn q hq (hashK_inj e)⟩
theorem mB_snoc (E : EntB) (h c : List UInt8) : mB E ++ [(hashK h, bV c)] = mB (E ++ [(h, c)]) := by
  unfold mB; rw [List.map_append]; rfl
def ldM (i j : Nat) (E : EntB) (m : Nat) : Mem := [(i, .b [.mp j, .k (.int .i64 (m : Int))]), (j, .m (mB E))]
def NodeC (E : EntB) (f : Nat) : Prop := ∀ (h : List UInt8) (deep m : Nat), h.length = 32 → 65 ≤ deep + f → deep < 100000000 → m ≤ 4096 →
  LM Try.prog 51 [.p 1000 0, hashV h, .k (.int .i64 (deep : Int))] (ldM 1000 1001 E m) fun o mm => o = .ret (.t [rnV (ld (byE E) f h deep m).1, .k (.int .i64 ((ld (byE E) f h deep m).2.1 : Int))]) ∧ mm = ldM 1000 1001 E (ld (byE E) f h deep m).2.2
theorem drop_cons {α : Type} [Inhabited α] {l : List α} {i : Nat} (h : i < l.length) : l.drop i = l.getD i default :: l.drop (i + 1) := by
  rw [List.drop_eq_getElem_cons h, List.getD_eq_getElem?_getD, List.getElem?_eq_getElem h]
  rfl
theorem rnV_no : rnV Rn.no = .a [.k (.int .i64 0), bV [], bV [], .s none []] := by
  rw [show Rn.no = .mk 0 [] [] [] from rfl]; unfold rnV; rw [rnC_eq]; rfl
namespace Rw
set_option maxHeartbeats 8000000 in
theorem node_ (E : EntB) (hE : EntOk E) : ∀ f, NodeC E f := by
  have hM := mapTyB
  have hkk := bks hE
  have hb := ld_bound (by_ := byE E) (B := 3000000) (fun h c e => Nat.le_of_lt (hE.val _ (byE_some e)))
  intro f
  induction f with
  | zero =>
    intro h deep m hh hd hd2 hm
    have hkey := keyH hh
    unfold ld
    rw [rnV_no]
    unfold ldM
    rcases hby : byE E h with _ | c
    · have hget := bget_no (byE_none hby)
      clear hb hby
      refine LM.enter tt Try.func51 rfl rfl rfl (by kernel_rfl) rfl rfl rfl (fun o mo h => by rw [h.2]; rfl) fun F _ => ?_
      exact wk trueW trueW trueW
    · have hget := bget_yes hE (byE_some hby)
      clear hb hby
      refine LM.enter tt Try.func51 rfl rfl rfl (by kernel_rfl) rfl rfl rfl (fun o mo h => by rw [h.2]; rfl) fun F _ => ?_
      exact wk trueW trueW trueW
  | succ f ih =>
    intro h deep m hh hd hd2 hm
    have hkey := keyH hh
    unfold ld
    unfold ldM
    by_cases h64 : 64 < deep
    · rw [if_pos h64, rnV_no]
      rcases hby : byE E h with _ | c
      · have hget := bget_no (byE_none hby)
        clear hb hby ih
        refine LM.enter tt Try.func51 rfl rfl rfl (by kernel_rfl) rfl rfl rfl (fun o mo h => by rw [h.2]; rfl) fun F _ => ?_
        exact wk trueW trueW trueW
      · have hget := bget_yes hE (byE_some hby)
        clear hb hby ih
        refine LM.enter tt Try.func51 rfl rfl rfl (by kernel_rfl) rfl rfl rfl (fun o mo h => by rw [h.2]; rfl) fun F _ => ?_
        exact wk trueW trueW trueW
    rw [if_neg h64]
    rcases hby : byE E h with _ | c
    · have hget := bget_no (byE_none hby)
      simp only []
      rw [rnV_no]
      clear hb hby ih
      refine LM.enter tt Try.func51 rfl rfl rfl (by kernel_rfl) rfl rfl rfl (fun o mo h => by rw [h.2]; rfl) fun F _ => ?_
      exact wk trueW trueW trueW
    have hget := bget_yes hE (byE_some hby)
    have hcl := hE.val _ (byE_some hby)
    simp only [] at hcl
    simp only []
    by_cases hm4 : m = 4096
    · rw [if_pos hm4, rnV_no]
      clear hb hby ih
      refine LM.enter tt Try.func51 rfl rfl rfl (by kernel_rfl) rfl rfl rfl (fun o mo h => by rw [h.2]; rfl) fun F _ => ?_
      exact wk trueW trueW trueW
    rw [if_neg hm4]
    obtain ⟨r1, r2⟩ := Read_ c hcl
    cases hr : readS c with
    | none =>
      have c1 := r1 hr
      simp only []
      rw [rnV_no]
      rw [shV_zero] at c1
      clear hb hby ih r1 r2 hr
      refine LM.enter tt Try.func51 rfl rfl rfl (by kernel_rfl) rfl rfl rfl (fun o mo h => by rw [h.2]; rfl) fun F _ => ?_
      exact wk trueW trueW trueW
    | some s =>
      have c1 := r2 s hr
      obtain ⟨b1, b2, b3, b4⟩ := readS_bound hr
      simp only []
      obtain ⟨k, p, v, ks⟩ := s
      simp only at b1 b2 b3 b4
      simp only [shV, shC_eq] at c1
      by_cases hk0 : k = 0 ∧ 0 < deep
      · rw [if_pos hk0, rnV_no]
        obtain ⟨hk0, hk1⟩ := hk0
        clear hb hby ih r1 r2 hr
        refine LM.enter tt Try.func51 rfl rfl rfl (by kernel_rfl) rfl rfl rfl (fun o mo h => by rw [h.2]; rfl) fun F _ => ?_
        exact wk trueW trueW trueW
      · rw [if_neg hk0]
        have hk00 : k = 0 → deep = 0 := fun e => by
          rcases Nat.eq_zero_or_pos deep with h | h
          · exact h
          · exact absurd ⟨e, h⟩ hk0
        obtain ⟨D, hD1, hD2⟩ : ∃ D, D = (if k = 2 then deep + (p.length - 1) else deep) ∧ dpS ⟨k, p, v, ks⟩ deep = D + 1 := ⟨_, rfl, by
          unfold dpS
          simp only []
          by_cases h2 : k = 2
          · have := readS_road hr h2
            simp only [] at this
            rw [if_pos h2, if_pos h2]; omega
          · rw [if_neg h2, if_neg h2]⟩
        have hDl : deep ≤ D ∧ D < 90000000 := by
          rw [hD1]
          split <;> omega
        obtain ⟨hDl1, hDl2⟩ := hDl
        rw [hD2]
        obtain ⟨g, hg⟩ : ∃ g : List UInt8 → Nat → Rn × Nat × Nat, g = fun k m => ld (byE E) f k (D + 1) m := ⟨_, rfl⟩
        rw [← hg]
        have hgC : ∀ q M, q.length = 32 → M ≤ 4096 → LM Try.prog 51 [.p 1000 0, hashV q, .k (.int .i64 ((D + 1 : Nat) : Int))] (ldM 1000 1001 E M) (fun o mm => o = .ret (.t [rnV (g q M).1, .k (.int .i64 ((g q M).2.1 : Int))]) ∧ mm = ldM 1000 1001 E (g q M).2.2) ∧ (g q M).2.2 ≤ 4096 := fun q M hq hM => by
          rw [hg]
          exact ⟨ih q (D + 1) M hq (by omega) (by omega) hM, (hb f q (D + 1) M hM).2.2⟩
        obtain ⟨X, hX⟩ : ∃ X, X = ldK g ks (m + 1) := ⟨_, rfl⟩
        rw [← hX]
        have hr2 : k = 2 → 0 < p.length := fun e => readS_road hr e
        clear hb hby ih r1 r2 hr hk0 hg hD2
        have hrf := rnC_refs
        have hbr := rnC_bare
        have hcv := rnC_cv
        have fin : ∀ (i M : Nat) (L : List Rn), i ≤ ks.length → X = (L ++ (ldK g (ks.drop i) M).1, (ldK g (ks.drop i) M).2) →
            (i = ks.length → ldR ⟨k, p, v, ks⟩ X = (.mk k p v L, 0, M)) ∧
            (i < ks.length → (ks.getD i default).length = 0 → X = ((L ++ [Rn.no]) ++ (ldK g (ks.drop (i + 1)) M).1, (ldK g (ks.drop (i + 1)) M).2)) ∧
            (i < ks.length → (ks.getD i default).length ≠ 0 → (g (ks.getD i default) M).2.1 = 0 → X = ((L ++ [(g (ks.getD i default) M).1]) ++ (ldK g (ks.drop (i + 1)) (g (ks.getD i default) M).2.2).1, (ldK g (ks.drop (i + 1)) (g (ks.getD i default) M).2.2).2)) ∧
            (i < ks.length → (ks.getD i default).length ≠ 0 → (g (ks.getD i default) M).2.1 ≠ 0 → ldR ⟨k, p, v, ks⟩ X = (.no, (g (ks.getD i default) M).2.1, (g (ks.getD i default) M).2.2)) := by
          intro i M L hi hXi
          refine ⟨fun h => ?_, fun h h1 => ?_, fun h h1 h2 => ?_, fun h h1 h2 => ?_⟩
          · subst h
            rw [List.drop_length] at hXi
            unfold ldK at hXi
            rw [hXi]
            unfold ldR
            rw [if_pos rfl, List.append_nil]
          · rw [drop_cons h] at hXi
            unfold ldK at hXi
            rw [if_pos h1] at hXi
            rw [hXi, List.append_assoc]
            rfl
          · rw [drop_cons h] at hXi
            unfold ldK at hXi
            rw [if_neg h1, if_pos h2] at hXi
            rw [hXi, List.append_assoc]
            rfl
          · rw [drop_cons h] at hXi
            unfold ldK at hXi
            rw [if_neg h1, if_neg h2] at hXi
            rw [hXi]
            unfold ldR
            rw [if_neg h2]
        have hcase : (k = 2 ∧ 0 < p.length ∧ D = deep + (p.length - 1)) ∨ (k = 0 ∧ deep = 0 ∧ D = deep) ∨ (¬ k = 2 ∧ ¬ k = 0 ∧ D = deep) := by
          by_cases hk2 : k = 2
          · rw [if_pos hk2] at hD1
            exact .inl ⟨hk2, hr2 hk2, hD1⟩
          · rw [if_neg hk2] at hD1
            by_cases hk0 : k = 0
            · exact .inr (.inl ⟨hk0, hk00 hk0, hD1⟩)
            · exact .inr (.inr ⟨hk2, hk0, hD1⟩)
        clear hr2 hk00 hD1
        rcases hcase with ⟨hk2, hp0, hD1⟩ | ⟨hk2, hp0, hD1⟩ | ⟨hk2, hp0, hD1⟩
        all_goals
          subst hD1
          refine LM.enter tt Try.func51 rfl rfl rfl (by kernel_rfl) rfl rfl rfl (fun o mo h => by rw [h.2]; rfl) fun F _ => ?_
          refine wk ?_ trueW trueW
          refine LC.nilcell 12 3 120 37 4 rfl rfl rfl (by decide) rfl ?_
        · refine LC.loop5 (fun i L M (_u3 : Unit) (_u4 : Unit) => [(0, .p 1000 0), (2, .k (.int .i64 (((deep + (p.length - 1)) : Nat) : Int))), (6, .p 6 0), (12, .p 12 0), (81, .s none (ks.map bV)), (82, .k (.int .i64 ((ks.length : Nat) : Int))), (83, .k (.int .i64 ((i : Nat) : Int)))]) (fun i L M (_u3 : Unit) (_u4 : Unit) => [(1000, .b [.mp 1001, .k (.int .i64 ((M : Nat) : Int))]), (1001, .m (mB E)), (6, .b [.k (.int .i64 0), .nil, .nil, .nil]), (12, .b [.k (.int .i64 k), bV p, bV v, .s (some 120) (L.map rnV)]), (120, .r 37 4 L.length)]) (fun i L M (_u3 : Unit) (_u4 : Unit) => i ≤ ks.length ∧ M ≤ 4096 ∧ L.length = i ∧ X = (L ++ (ldK g (ks.drop i) M).1, (ldK g (ks.drop i) M).2)) ((ks.length - ·)) (0) ([]) (m + 1) () () ⟨by omega, by omega, rfl, by rw [hX]; rfl⟩ ⟨rfl, rfl, rfl, rfl, rfl, rfl, rfl, trivial⟩ ⟨rfl, rfl, rfl, rfl, rfl, trivial⟩ rfl rfW rfW ?_
          rintro i L M _ _ ⟨hi, hMl, hLl, hXi⟩
          obtain ⟨f1, f2, f3, f4⟩ := fin i M L hi hXi
          clear hX hXi fin
          have z1 : ∀ e ∈ L.map rnV, e.cells.length = 4 := fun e he => by obtain ⟨x, _, rfl⟩ := List.mem_map.1 he; exact rnC_len x
          rcases Nat.lt_or_ge i ks.length with h | h
          · have hkl := b4 (ks.getD i default) (by rw [List.getD_eq_getElem?_getD, List.getElem?_eq_getElem h]; exact List.getElem_mem h)
            by_cases hz : (ks.getD i default).length = 0
            · have hok : i + 1 ≤ ks.length ∧ M ≤ 4096 ∧ (L ++ [Rn.no]).length = i + 1 ∧ X = ((L ++ [Rn.no]) ++ (ldK g (ks.drop (i + 1)) M).1, (ldK g (ks.drop (i + 1)) M).2) := ⟨h, hMl, by simp [hLl], f2 h hz⟩
              have hny : NilElts [.k (.int .i64 0), .nil, .nil, .nil] [.k (.int .i64 0), bV [], bV [], .s none []] := ⟨rfl⟩
              have hap : L.map rnV ++ [V.a [.k (.int .i64 0), bV [], bV [], .s none []]] = (L ++ [Rn.no]).map rnV := by
                rw [List.map_append, ← rnV_no]; rfl
              clear f1 f2 f3 f4 hgC b4
              exact wk trueW trueW trueW
            · have hq : (ks.getD i default).length = 32 := hkl.resolve_right hz
              obtain ⟨c2, hM2⟩ := hgC (ks.getD i default) M hq hMl
              unfold ldM at c2
              by_cases he : (g (ks.getD i default) M).2.1 = 0
              · have hok : i + 1 ≤ ks.length ∧ (g (ks.getD i default) M).2.2 ≤ 4096 ∧ (L ++ [(g (ks.getD i default) M).1]).length = i + 1 ∧ X = ((L ++ [(g (ks.getD i default) M).1]) ++ (ldK g (ks.drop (i + 1)) (g (ks.getD i default) M).2.2).1, (ldK g (ks.drop (i + 1)) (g (ks.getD i default) M).2.2).2) := ⟨h, hM2, by simp [hLl], f3 h hz he⟩
                have hk4 := rnC_len (g (ks.getD i default) M).1
                clear f1 f2 f3 f4 hgC b4
                generalize g (ks.getD i default) M = Y at *
                obtain ⟨y, e, M2⟩ := Y
                simp only at he hM2 hok c2 hk4
                subst he
                exact wk trueW trueW trueW
              · have hfin := f4 h hz he
                rw [hfin, rnV_no]
                have hk4 := rnC_len (g (ks.getD i default) M).1
                clear f1 f2 f3 f4 hgC b4 hfin
                generalize g (ks.getD i default) M = Y at *
                obtain ⟨y, e, M2⟩ := Y
                simp only at he hM2 c2 hk4 ⊢
                exact wk trueW trueW trueW
          · obtain rfl : i = ks.length := by omega
            rw [f1 rfl]
            simp only [rnV, rnC_eq]
            clear f1 f2 f3 f4 hgC b4
            exact wk trueW trueW trueW
        · refine LC.loop5 (fun i L M (_u3 : Unit) (_u4 : Unit) => [(0, .p 1000 0), (2, .k (.int .i64 ((D : Nat) : Int))), (6, .p 6 0), (12, .p 12 0), (81, .s none (ks.map bV)), (82, .k (.int .i64 ((ks.length : Nat) : Int))), (83, .k (.int .i64 ((i : Nat) : Int)))]) (fun i L M (_u3 : Unit) (_u4 : Unit) => [(1000, .b [.mp 1001, .k (.int .i64 ((M : Nat) : Int))]), (1001, .m (mB E)), (6, .b [.k (.int .i64 0), .nil, .nil, .nil]), (12, .b [.k (.int .i64 k), bV p, bV v, .s (some 120) (L.map rnV)]), (120, .r 37 4 L.length)]) (fun i L M (_u3 : Unit) (_u4 : Unit) => i ≤ ks.length ∧ M ≤ 4096 ∧ L.length = i ∧ X = (L ++ (ldK g (ks.drop i) M).1, (ldK g (ks.drop i) M).2)) ((ks.length - ·)) (0) ([]) (m + 1) () () ⟨by omega, by omega, rfl, by rw [hX]; rfl⟩ ⟨rfl, rfl, rfl, rfl, rfl, rfl, rfl, trivial⟩ ⟨rfl, rfl, rfl, rfl, rfl, trivial⟩ rfl rfW rfW ?_
          rintro i L M _ _ ⟨hi, hMl, hLl, hXi⟩
          obtain ⟨f1, f2, f3, f4⟩ := fin i M L hi hXi
          clear hX hXi fin
          have z1 : ∀ e ∈ L.map rnV, e.cells.length = 4 := fun e he => by obtain ⟨x, _, rfl⟩ := List.mem_map.1 he; exact rnC_len x
          rcases Nat.lt_or_ge i ks.length with h | h
          · have hkl := b4 (ks.getD i default) (by rw [List.getD_eq_getElem?_getD, List.getElem?_eq_getElem h]; exact List.getElem_mem h)
            by_cases hz : (ks.getD i default).length = 0
            · have hok : i + 1 ≤ ks.length ∧ M ≤ 4096 ∧ (L ++ [Rn.no]).length = i + 1 ∧ X = ((L ++ [Rn.no]) ++ (ldK g (ks.drop (i + 1)) M).1, (ldK g (ks.drop (i + 1)) M).2) := ⟨h, hMl, by simp [hLl], f2 h hz⟩
              have hny : NilElts [.k (.int .i64 0), .nil, .nil, .nil] [.k (.int .i64 0), bV [], bV [], .s none []] := ⟨rfl⟩
              have hap : L.map rnV ++ [V.a [.k (.int .i64 0), bV [], bV [], .s none []]] = (L ++ [Rn.no]).map rnV := by
                rw [List.map_append, ← rnV_no]; rfl
              clear f1 f2 f3 f4 hgC b4
              exact wk trueW trueW trueW
            · have hq : (ks.getD i default).length = 32 := hkl.resolve_right hz
              obtain ⟨c2, hM2⟩ := hgC (ks.getD i default) M hq hMl
              unfold ldM at c2
              by_cases he : (g (ks.getD i default) M).2.1 = 0
              · have hok : i + 1 ≤ ks.length ∧ (g (ks.getD i default) M).2.2 ≤ 4096 ∧ (L ++ [(g (ks.getD i default) M).1]).length = i + 1 ∧ X = ((L ++ [(g (ks.getD i default) M).1]) ++ (ldK g (ks.drop (i + 1)) (g (ks.getD i default) M).2.2).1, (ldK g (ks.drop (i + 1)) (g (ks.getD i default) M).2.2).2) := ⟨h, hM2, by simp [hLl], f3 h hz he⟩
                have hk4 := rnC_len (g (ks.getD i default) M).1
                clear f1 f2 f3 f4 hgC b4
                generalize g (ks.getD i default) M = Y at *
                obtain ⟨y, e, M2⟩ := Y
                simp only at he hM2 hok c2 hk4
                subst he
                exact wk trueW trueW trueW
              · have hfin := f4 h hz he
                rw [hfin, rnV_no]
                have hk4 := rnC_len (g (ks.getD i default) M).1
                clear f1 f2 f3 f4 hgC b4 hfin
                generalize g (ks.getD i default) M = Y at *
                obtain ⟨y, e, M2⟩ := Y
                simp only at he hM2 c2 hk4 ⊢
                exact wk trueW trueW trueW
          · obtain rfl : i = ks.length := by omega
            rw [f1 rfl]
            simp only [rnV, rnC_eq]
            clear f1 f2 f3 f4 hgC b4
            exact wk trueW trueW trueW
        · refine LC.loop5 (fun i L M (_u3 : Unit) (_u4 : Unit) => [(0, .p 1000 0), (2, .k (.int .i64 ((D : Nat) : Int))), (6, .p 6 0), (12, .p 12 0), (81, .s none (ks.map bV)), (82, .k (.int .i64 ((ks.length : Nat) : Int))), (83, .k (.int .i64 ((i : Nat) : Int)))]) (fun i L M (_u3 : Unit) (_u4 : Unit) => [(1000, .b [.mp 1001, .k (.int .i64 ((M : Nat) : Int))]), (1001, .m (mB E)), (6, .b [.k (.int .i64 0), .nil, .nil, .nil]), (12, .b [.k (.int .i64 k), bV p, bV v, .s (some 120) (L.map rnV)]), (120, .r 37 4 L.length)]) (fun i L M (_u3 : Unit) (_u4 : Unit) => i ≤ ks.length ∧ M ≤ 4096 ∧ L.length = i ∧ X = (L ++ (ldK g (ks.drop i) M).1, (ldK g (ks.drop i) M).2)) ((ks.length - ·)) (0) ([]) (m + 1) () () ⟨by omega, by omega, rfl, by rw [hX]; rfl⟩ ⟨rfl, rfl, rfl, rfl, rfl, rfl, rfl, trivial⟩ ⟨rfl, rfl, rfl, rfl, rfl, trivial⟩ rfl rfW rfW ?_
          rintro i L M _ _ ⟨hi, hMl, hLl, hXi⟩
          obtain ⟨f1, f2, f3, f4⟩ := fin i M L hi hXi
          clear hX hXi fin
          have z1 : ∀ e ∈ L.map rnV, e.cells.length = 4 := fun e he => by obtain ⟨x, _, rfl⟩ := List.mem_map.1 he; exact rnC_len x
          rcases Nat.lt_or_ge i ks.length with h | h
          · have hkl := b4 (ks.getD i default) (by rw [List.getD_eq_getElem?_getD, List.getElem?_eq_getElem h]; exact List.getElem_mem h)
            by_cases hz : (ks.getD i default).length = 0
            · have hok : i + 1 ≤ ks.length ∧ M ≤ 4096 ∧ (L ++ [Rn.no]).length = i + 1 ∧ X = ((L ++ [Rn.no]) ++ (ldK g (ks.drop (i + 1)) M).1, (ldK g (ks.drop (i + 1)) M).2) := ⟨h, hMl, by simp [hLl], f2 h hz⟩
              have hny : NilElts [.k (.int .i64 0), .nil, .nil, .nil] [.k (.int .i64 0), bV [], bV [], .s none []] := ⟨rfl⟩
              have hap : L.map rnV ++ [V.a [.k (.int .i64 0), bV [], bV [], .s none []]] = (L ++ [Rn.no]).map rnV := by
                rw [List.map_append, ← rnV_no]; rfl
              clear f1 f2 f3 f4 hgC b4
              exact wk trueW trueW trueW
            · have hq : (ks.getD i default).length = 32 := hkl.resolve_right hz
              obtain ⟨c2, hM2⟩ := hgC (ks.getD i default) M hq hMl
              unfold ldM at c2
              by_cases he : (g (ks.getD i default) M).2.1 = 0
              · have hok : i + 1 ≤ ks.length ∧ (g (ks.getD i default) M).2.2 ≤ 4096 ∧ (L ++ [(g (ks.getD i default) M).1]).length = i + 1 ∧ X = ((L ++ [(g (ks.getD i default) M).1]) ++ (ldK g (ks.drop (i + 1)) (g (ks.getD i default) M).2.2).1, (ldK g (ks.drop (i + 1)) (g (ks.getD i default) M).2.2).2) := ⟨h, hM2, by simp [hLl], f3 h hz he⟩
                have hk4 := rnC_len (g (ks.getD i default) M).1
                clear f1 f2 f3 f4 hgC b4
                generalize g (ks.getD i default) M = Y at *
                obtain ⟨y, e, M2⟩ := Y
                simp only at he hM2 hok c2 hk4
                subst he
                exact wk trueW trueW trueW
              · have hfin := f4 h hz he
                rw [hfin, rnV_no]
                have hk4 := rnC_len (g (ks.getD i default) M).1
                clear f1 f2 f3 f4 hgC b4 hfin
                generalize g (ks.getD i default) M = Y at *
                obtain ⟨y, e, M2⟩ := Y
                simp only at he hM2 c2 hk4 ⊢
                exact wk trueW trueW trueW
          · obtain rfl : i = ks.length := by omega
            rw [f1 rfl]
            simp only [rnV, rnC_eq]
            clear f1 f2 f3 f4 hgC b4
            exact wk trueW trueW trueW
end Rw
end Lf
open Go.RowKit Rg Wm Ar
set_option linter.unusedVariables false
set_option maxRecDepth 100000
namespace Lf
open Tr Ro Pk
theorem node_at {E : EntB} {f : Nat} (hC : NodeC E f) {h : List UInt8} {deep m : Nat} (h1 : h.length = 32) (h2 : 65 ≤ deep + f) (h3 : deep < 100000000) (h4 : m ≤ 4096) {i j : Nat} (hij : i ≠ j) :
    LM Try.prog 51 [.p i 0, hashV h, .k (.int .i64 (deep : Int))] (ldM i j E m) fun o mm => o = .ret (.t [rnV (ld (byE E) f h deep m).1, .k (.int .i64 ((ld (byE E) f h deep m).2.1 : Int))]) ∧ mm = ldM i j E (ld (byE E) f h deep m).2.2 :=
  LM.gen [1000, 1001] [i, j] (by simp) (by simpa using hij) rfl (hC h deep m h1 h2 h3 h4) fun ρ hρ => by
    simp at hρ
    obtain ⟨e1, e2⟩ := hρ
    have hr : ∀ x : Rn, (rnV x).ren ρ.f = rnV x := fun x => ren_refs (rnV x) (rnC_refs [] x)
    refine ⟨?_, ?_, ?_, ?_⟩
    · show [V.p (ρ.f 1000) 0, (hashV h).ren ρ.f, _] = _
      rw [e1, ren_refs (hashV h) (by simp only [V.refs, refs_mapb])]
      rfl
    · simp [ldM, Mem.ren, M.ren, V.ren, e1, e2]
    · show Out.ret (.t [(rnV _).ren ρ.f, _]) = _
      rw [hr]; rfl
    · simp [ldM, Mem.ren, M.ren, V.ren, e1, e2]
def loadR (h : List UInt8) (cs : List (List UInt8)) : Rn × Nat :=
  if (ld (byS sumB cs) 65 h 0 0).2.1 = 0 then (if rt (ld (byS sumB cs) 65 h 0 0).1 0 = true then ((ld (byS sumB cs) 65 h 0 0).1, 0) else (.no, 1)) else (.no, (ld (byS sumB cs) 65 h 0 0).2.1)
theorem byS_take {S : List UInt8 → List UInt8} {cs : List (List UInt8)} {i : Nat} (h : i < cs.length) (k : List UInt8) : byS S (cs.take (i + 1)) k = match byS S (cs.take i) k with
    | some c => some c
    | none => if S (cs.getD i default) = k then some (cs.getD i default) else none := by
  unfold byS
  rw [List.take_succ_eq_append_getElem h, List.find?_append, List.getD_eq_getElem?_getD, List.getElem?_eq_getElem h, Option.getD_some]
  cases (cs.take i).find? fun c => decide (S c = k) with
  | some c => rfl
  | none =>
    simp only [Option.none_or]
    rw [List.find?_cons]
    by_cases e : S cs[i] = k
    · rw [decide_eq_true e, if_pos e]
    · rw [decide_eq_false e, if_neg e]; rfl
theorem byE_app {E : EntB} {a b k : List UInt8} : byE (E ++ [(a, b)]) k = match byE E k with
    | some c => some c
    | none => if a = k then some b else none := by
  unfold byE
  rw [List.find?_append]
  cases E.find? fun p => decide (p.1 = k) with
  | some c => rfl
  | none =>
    simp only [Option.none_or, Option.map_none]
    rw [List.find?_cons]
    by_cases e : a = k
    · rw [show decide ((a, b).1 = k) = true from decide_eq_true e, if_pos e]; rfl
    · rw [show decide ((a, b).1 = k) = false from decide_eq_false e, if_neg e]; rfl
namespace Rw
set_option maxHeartbeats 8000000 in
theorem Load_ (h : List UInt8) (cs : List (List UInt8)) (hh : h.length = 32) (hn : cs.length < 3000000) (ht : ∀ t ∈ cs, t.length < 3000000) : LF Try.prog 18 [hashV h, txV cs] (fun _ => .t [rnV (loadR h cs).1, .k (.int .i64 ((loadR h cs).2 : Int))]) none := by
  have hM := mapTyB
  have hrf := rnC_refs
  obtain ⟨Y, hY⟩ : ∃ Y, Y = loadR h cs := ⟨_, rfl⟩
  rw [← hY]
  refine LFx.mk' tt Try.func18 rfl rfl rfl (by kernel_rfl) rfl rfl fun F => ?_
  refine wk ?_ trueW trueW
  refine LC.loop2 (fun i E => [(2, .p 2 0), (4, .p 4 0), (6, .p 6 0), (16, .s none (cs.map bV)), (17, .k (.int .i64 ((cs.length : Nat) : Int))), (18, .k (.int .i64 ((i : Nat) : Int)))]) (fun i E => [(2, .b (h.map bK)), (4, .b [.k (.int .i64 0), .nil, .nil, .nil]), (6, .b [.mp 14, .k (.int .i64 0)]), (14, .m (mB E))]) (fun i E => i ≤ cs.length ∧ EntOk E ∧ (∀ k, byE E k = byS sumB (cs.take i) k)) ((cs.length - ·)) (0) ([]) ⟨by omega, ⟨by simp, by simp, by simp⟩, fun k => rfl⟩ ⟨rfl, rfl, rfl, rfl, rfl, rfl, trivial⟩ ⟨rfl, rfl, rfl, rfl, trivial⟩ rfl rfW rfW ?_
  rintro i E ⟨hi, hE, hby⟩
  have hkk := bks hE
  rcases Nat.lt_or_ge i cs.length with hlt | hge
  · have hmem : cs.getD i default ∈ cs := by rw [List.getD_eq_getElem?_getD, List.getElem?_eq_getElem hlt]; exact List.getElem_mem hlt
    have htl := ht _ hmem
    have c1 := Sp.Sum (cs.getD i default) (by omega)
    have hsl := sumB_len (cs.getD i default)
    have hkey := keyH hsl
    cases hb : byE E (sumB (cs.getD i default)) with
    | some c =>
      have hget := bget_yes hE (byE_some hb)
      have hok : i + 1 ≤ cs.length ∧ EntOk E ∧ (∀ k, byE E k = byS sumB (cs.take (i + 1)) k) := ⟨hlt, hE, fun k => by
        rw [byS_take hlt, ← hby k]
        cases hk : byE E k with
        | some c => rfl
        | none =>
          simp only []
          rw [if_neg]
          intro e
          rw [e, hk] at hb
          cases hb⟩
      clear hE hby hb hY
      generalize sumB (cs.getD i default) = SS at *
      exact wk trueW trueW trueW
    | none =>
      have hnn := byE_none hb
      have hget := bget_no hnn
      have hno := bno hnn
      have hsn := mB_snoc E (sumB (cs.getD i default)) (cs.getD i default)
      have hok : i + 1 ≤ cs.length ∧ EntOk (E ++ [(sumB (cs.getD i default), cs.getD i default)]) ∧ (∀ k, byE (E ++ [(sumB (cs.getD i default), cs.getD i default)]) k = byS sumB (cs.take (i + 1)) k) := ⟨hlt, ⟨fun p hp q hq e => by
        rcases List.mem_append.1 hp with hp | hp <;> rcases List.mem_append.1 hq with hq | hq
        · exact hE.one p hp q hq e
        · rw [List.mem_singleton] at hq; subst hq; exact absurd e (hnn p hp)
        · rw [List.mem_singleton] at hp; subst hp; exact absurd e.symm (hnn q hq)
        · rw [List.mem_singleton] at hp hq; rw [hp, hq], fun p hp => by
        rcases List.mem_append.1 hp with hp | hp
        · exact hE.len p hp
        · rw [List.mem_singleton] at hp; subst hp; exact hsl, fun p hp => by
        rcases List.mem_append.1 hp with hp | hp
        · exact hE.val p hp
        · rw [List.mem_singleton] at hp; subst hp; exact htl⟩, fun k => by rw [byE_app, byS_take hlt, ← hby k]⟩
      clear hE hby hb hY hnn
      generalize sumB (cs.getD i default) = SS at *
      exact wk trueW trueW trueW
  · obtain rfl : i = cs.length := by omega
    rw [List.take_length] at hby
    have hbE : byE E = byS sumB cs := funext hby
    have c1 := node_at (node_ E hE 65) hh (deep := 0) (m := 0) (by omega) (by omega) (by omega) (i := 6) (j := 14) (by decide)
    have hbd := (ld_bound (by_ := byE E) (B := 3000000) (fun h c e => Nat.le_of_lt (hE.val _ (byE_some e))) 65 h 0 0 (by omega))
    rw [hbE] at c1 hbd
    unfold loadR at hY
    generalize ld (byS sumB cs) 65 h 0 0 = X at *
    obtain ⟨x, e, m⟩ := X
    simp only at c1 hbd hY
    have c2 := Te.RightL_ x (by omega)
    have hk4 := rnC_len x
    unfold ldM at c1
    clear hE hby hbE hbd
    by_cases he : e = 0
    · subst he
      rw [if_pos rfl] at hY
      cases hrt : rt x 0 with
      | true =>
        rw [hrt] at c2
        rw [if_pos hrt] at hY
        subst hY
        clear hrt
        exact wk trueW trueW trueW
      | false =>
        rw [hrt] at c2
        rw [if_neg (by rw [hrt]; decide)] at hY
        subst hY
        clear hrt
        simp only []
        rw [rnV_no]
        exact wk trueW trueW trueW
    · rw [if_neg he] at hY
      subst hY
      simp only []
      rw [rnV_no]
      clear c2
      exact wk trueW trueW trueW
end Rw
end Lf
namespace Lf
end Lf
namespace Lf
namespace Sr
end Sr
end Lf
open Go.RowKit Rg
set_option linter.unusedVariables false
set_option maxRecDepth 100000
namespace Lf
namespace Sr
def blocks (b : List UInt8) : Nat := b.length / 32 + 1 + (if b.length % 32 = 31 then 1 else 0)
end Sr
end Lf
namespace Lf
namespace Sr
end Sr
end Lf
open Go.RowKit Rg
set_option linter.unusedVariables false
set_option maxRecDepth 100000
namespace Lf
def hE (E : List (List UInt8 × Nat)) : List (Value × V) := E.map fun p => (hashK p.1, .k (.int .i64 ((p.2 : Nat) : Int)))
theorem hks {E : List (List UInt8 × Nat)} (h : ∀ p ∈ E, p.1.length = 32) : KeysV Try.prog 34 (hE E) := ⟨fun p hp => by
  obtain ⟨q, hq, rfl⟩ := List.mem_map.1 hp
  exact key_hashK (h q hq)⟩
theorem hno {E : List (List UInt8 × Nat)} {h : List UInt8} (hn : ∀ p ∈ E, p.1 ≠ h) : MNo (hE E) (hashK h) := ⟨fun p hp e => by
  obtain ⟨q, hq, rfl⟩ := List.mem_map.1 hp
  exact hn q hq (hashK_inj e)⟩
def Clashes (ts : List (List UInt8)) : Prop := ∃ a ∈ ts, ∃ b ∈ ts, sumB a = sumB b ∧ a ≠ b
structure ClashAt (ts : List (List UInt8)) (i : Nat) (E : List (List UInt8 × Nat)) : Prop where
  one : ∀ p ∈ E, ∀ q ∈ E, p.1 = q.1 → p = q
  at_ : ∀ p ∈ E, p.2 < i ∧ p.1 = sumB (ts.getD p.2 default)
  all : ∀ j, j < i → ∃ p ∈ E, p.1 = sumB (ts.getD j default) ∧ ts.getD p.2 default = ts.getD j default
theorem ClashAt.len {ts : List (List UInt8)} {i : Nat} {E : List (List UInt8 × Nat)} (h : ClashAt ts i E) : ∀ p ∈ E, p.1.length = 32 := fun p hp => by rw [(h.at_ p hp).2]; exact sumB_len _
theorem ClashAt.no {ts : List (List UInt8)} {E : List (List UInt8 × Nat)} (h : ClashAt ts ts.length E) : ¬ Clashes ts := by
  rintro ⟨a, ha, b, hb, h1, h2⟩
  obtain ⟨i, hi, ei⟩ := List.mem_iff_getElem.1 ha
  obtain ⟨j, hj, ej⟩ := List.mem_iff_getElem.1 hb
  have gi : ts.getD i default = a := by rw [List.getD_eq_getElem?_getD, List.getElem?_eq_getElem hi]; exact ei
  have gj : ts.getD j default = b := by rw [List.getD_eq_getElem?_getD, List.getElem?_eq_getElem hj]; exact ej
  obtain ⟨p, p1, p2, p3⟩ := h.all i hi
  obtain ⟨q, q1, q2, q3⟩ := h.all j hj
  rw [gi] at p2 p3
  rw [gj] at q2 q3
  have := h.one p p1 q q1 (by rw [p2, q2, h1])
  subst this
  exact h2 (p3.symm.trans q3)
namespace Sr
end Sr
end Lf
end Go.Proofs.Ytkbimhccaacobaa

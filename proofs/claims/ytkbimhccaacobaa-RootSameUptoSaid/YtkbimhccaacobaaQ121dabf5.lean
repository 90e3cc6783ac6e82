/- A part of the proof: texts joined. -/
import Derived.Test.YtkbimhccaacobaaQ1160f2f6
namespace Go.Proofs.Ytkbimhccaacobaa
open Go.RowKit Rg Wm Ar
set_option linter.unusedVariables false
set_option maxRecDepth 100000
namespace Lf
open Tr
theorem Ms.ext {σ τ : Type} {U : σ → Mem} (hU : Ms U) (f : τ → σ) (B : τ → Mem) (K : List Nat) (hK : ∀ t, (B t).map (·.1) = K) (hn : K.Nodup) (hb : ∀ k ∈ K, 1000 ≤ k) (s0 : σ) (hd : ∀ k ∈ K, aget (U s0) k = none) (hr : ∀ t, refsM (B t ++ U (f t)) (B t) = true) : Ms fun t => B t ++ U (f t) := by
  refine ⟨fun t t' => by rw [List.map_append, List.map_append, hK, hK, hU.keys (f t) (f t')], fun t => ?_, fun t => ?_, fun t => refsM_tail hU _ _ (hr t)⟩
  · rw [List.map_append, hK]
    refine List.nodup_append.2 ⟨hn, hU.nd _, fun a ha b hb' e => ?_⟩
    subst e
    have h1 := aget_mem_keys.2 hb'
    rw [hU.none_ (hd a ha)] at h1
    cases h1
  · rw [List.all_append, hU.big, Bool.and_true, List.all_eq_true]
    intro x hx
    refine Nat.ble_eq_true_of_le (hb _ ?_)
    rw [← hK t]
    exact List.mem_map_of_mem hx
def bxF (ks : Fin 16 → Nd) (v : List UInt8) (p : Pa) : Mem := [(1003, .b [.y 1999]), (1001, .b [.i 181 (.a (fkC ks v))]), (1002, .b [bV (pB p)])]
theorem bxF_refs (ks : Fin 16 → Nd) (v : List UInt8) (p : Pa) (m : Mem) (h : (aget m 1999).isSome = true) : refsM m (bxF ks v p) = true := by
  simp only [bxF, refsM, V.refs, V.refs.go, fk_refs, h, Bool.and_self]
theorem all_c {α : Type} {f : α → Bool} {x : α} {m : List α} (h : f x = true) (h2 : m.all f = true) : (x :: m).all f = true := by rw [List.all_cons, h, h2]; rfl
theorem all_a {α : Type} {f : α → Bool} {a b : List α} (h : a.all f = true) (h2 : b.all f = true) : (a ++ b).all f = true := by rw [List.all_append, h, h2]; rfl
theorem all_u {σ : Type} {U : σ → Mem} (hU : Ms U) (B : Mem) (s s1 : σ) : ((U s).all fun x => Nat.blt x.1 1000 || (aget (B ++ U s1) x.1).isSome) = true := by
  rw [List.all_eq_true]
  intro x hx
  rw [some_app_r (A := B) (T := U s1) x.1 (hU.some_ (s := s) (aget_mem_keys.2 (List.mem_map_of_mem hx))), Bool.or_true]
theorem weak_r {σ : Type} {U : σ → Mem} (hU : Ms U) {B mem : Mem} {s1 : σ} {env : Env} (hE : refsE (B ++ U s1) env = true) (hB : refsM (B ++ U s1) B = true) (hm : (mem.all fun x => Nat.blt x.1 1000 || (aget (B ++ U s1) x.1).isSome) = true) : (refsE (B ++ U s1) env && (refsM (B ++ U s1) (B ++ U s1) && mem.all fun x => Nat.blt x.1 1000 || (aget (B ++ U s1) x.1).isSome)) = true := by
  rw [hE, refsM_tail hU B s1 hB, hm]; rfl
def firstP (ks : Fin 16 → Nd) (p : Pa) (i : Nat) : List Al := ((List.finRange 16).take i).flatMap fun j => pairs (ks j) (p ++ [j])
theorem firstP_all (ks : Fin 16 → Nd) (p : Pa) : firstP ks p 16 = (List.finRange 16).flatMap fun i => pairs (ks i) (p ++ [i]) := by
  unfold firstP
  rw [List.take_of_length_le (by rw [List.length_finRange]; exact Nat.le_refl 16)]
theorem firstP_succ (ks : Fin 16 → Nd) (p : Pa) {i : Nat} (h : i < 16) : firstP ks p (i + 1) = firstP ks p i ++ pairs (ks ⟨i, h⟩) (p ++ [⟨i, h⟩]) := by
  unfold firstP
  rw [List.take_succ_eq_append_getElem (by rw [List.length_finRange]; exact h), List.flatMap_append, List.getElem_finRange]
  simp
theorem firstP_split (ks : Fin 16 → Nd) (p : Pa) {i : Nat} (h : i ≤ 16) : ∃ r, firstP ks p 16 = firstP ks p i ++ r := by
  refine ⟨((List.finRange 16).drop i).flatMap fun j => pairs (ks j) (p ++ [j]), ?_⟩
  unfold firstP
  rw [← List.flatMap_append]
  congr 1
  rw [List.take_of_length_le (by rw [List.length_finRange]; exact Nat.le_refl 16), List.take_append_drop]
theorem LC.weakK {P : Program} {F : Fr0} {N : Nat} {Q : LQ} {env env' : Env} {mem mem' : Mem} {c : Code} (hE : SubE env env') (hM : SubM mem mem') (h1 : refsE mem' env' = true) (h2 : refsM mem' mem' = true) (hk : ∀ i, aget mem' i = none → F.bx0 i = none ∧ F.rw0 i = none) (h : LC P F N c Q env' mem') : LC P F N c Q env mem := by
  refine ⟨fun F0 hx g a w hr => h.go F0 hx (g.only mem') a w ?_⟩
  have hs : ∀ i, aget mem' i ≠ none → (aget mem' i).isSome = true := fun i hi => by
    cases h : aget mem' i with
    | none => exact absurd h hi
    | some _ => rfl
  have hL : LocOk F0 (g.only mem') := by
    refine ⟨hr.mem.loc.tab, fun i z hz => ?_, fun i a l c hz => ?_⟩
    · have : (aget mem' i).isSome = true := hs i fun e => by rw [hx.bx, (hk i e).1] at hz; cases hz
      simp only [Gh.only]; rw [if_pos this]; exact hr.mem.loc.bx i z hz
    · have : (aget mem' i).isSome = true := hs i fun e => by rw [hx.rw, (hk i e).2] at hz; cases hz
      obtain ⟨a', l', c', k1, k2⟩ := hr.mem.loc.rw i a l c hz
      exact ⟨a', l', c', by simp only [Gh.only]; rw [if_pos this]; exact k1, k2⟩
  refine ⟨fun t v ht => ?_, hr.mem.sub (fun i m hi => hM.get hi) h2 hL fun i m b o hi hp => hr.mem.wr i m b o (hM.get hi) hp, ⟨hr.kept.os, hr.kept.tape, hr.kept.output, hr.kept.size, hr.kept.blk, hr.kept.cell, hr.kept.S1, hr.kept.S2, hr.kept.cellS⟩, hr.defers, hr.size, hr.big⟩
  obtain ⟨x, e1, e2⟩ := hr.env t v (hE.get ht)
  exact ⟨x, e1, e2.only (refsE_get h1 ht)⟩
theorem lblk_n {Q : LQ} {id : Nat} {env : Env} {mem : Mem} (h : Q .normal env mem) : LBlk id Q .normal env mem := h
theorem lblk_r {Q : LQ} {id : Nat} {env : Env} {mem : Mem} (h : Q .ret env mem) : LBlk id Q .ret env mem := h
namespace Te
set_option maxHeartbeats 8000000 in
theorem allT_fork (p : Pa) (ks : Fin 16 → Nd) (v : List UInt8) (hl : p.length < 1000000000) (ih : ∀ i, AllC (ks i) (p ++ [i])) : AllT (.fork ks v) p := by
  intro σ U ok go nx s0 hU hy hav hok
  have hnt : ∀ i, Nat.blt i 1000 = true → aget (U s0) i = none := fun i h => hU.small h
  have c1 := own_ (pB p) (by rw [pB_len]; exact hl)
  have hrf := tr_refs
  have hcv := tr_cv
  have hfk := fk_len ks v
  have ld1 := @fk_val ks v
  have ld2 := @fk_kids ks v
  refine LI.enterR tt Try.func98 rfl rfl rfl (by kernel_rfl) rfl rfl (big_tail hU _ s0 rfl) (fun o mo h => by rw [h.2]; exact keysOk_tail hU _ _ _ _ rfl) fun F hD hro hlm hY hkF => ?_
  refine LC.seq (LC.region (LS.step rfl (Does.box (i := 1003) rfl rfl rfl) (tpre_one (hav 1003 (by decide))) rfl (LS.nil ?_)))
  show LC _ _ _ _ _ _ ((1003, .b [.y 1999]) :: (1001, .b [ndV (.fork ks v)]) :: (1002, .b [bV (pB p)]) :: U s0)
  rw [ndV_fork]
  have hU1 := hU
  have hcs : v = [] ∨ (v ≠ [] ∧ go s0 (p, v) = true) ∨ (v ≠ [] ∧ go s0 (p, v) = false) := by
    by_cases h : v = []
    · exact .inl h
    · cases hg : go s0 (p, v) with
      | true => exact .inr (.inl ⟨h, rfl⟩)
      | false => exact .inr (.inr ⟨h, rfl⟩)
  have hpr : pairs (.fork ks v) p = (if v = [] then [] else [(p, v)]) ++ firstP ks p 16 := by rw [firstP_all]; rfl
  rw [hpr] at hok ⊢
  rcases hcs with hv | ⟨hv, hg⟩ | ⟨hv, hg⟩
  case' inl =>
    have hv0 : v.length = 0 := by rw [hv]; rfl
    rw [if_pos hv, List.nil_append] at hok ⊢
    obtain ⟨s1, hs1⟩ : ∃ s1, s0 = s1 := ⟨_, rfl⟩
    have hok1 := hok
    rw [hs1] at hok1 hav hnt hy ⊢
    have hav1 := hav
    have hnt1 := hnt
    have hy1 := hy
    refine wk ?_ trueW trueW
    refine LC.weak (env' := [(1, .p 1001 0), (2, .p 1002 0), (3, .p 1003 0), (52, .a (kdC ks)), (53, .k (.int .i64 ((0 : Nat) : Int)))]) (mem' := bxF ks v p ++ U s1) ⟨(by repeat (first | exact True.intro | refine And.intro rfl ?_)), ⟨rfl, rfl, rfl, (by repeat (first | exact Tail.sub hU1 .nil | exact hU.sub _ _ | refine SubM.skip ?_ (by first | exact hnt1 _ rfl | exact hav1 _ (by decide))))⟩, weak_r hU (by simp only [refsE, V.refs, kd_refs]; rfl) (bxF_refs _ _ _ _ (some_app_r (A := bxF ks v p) _ hy1)) (by repeat (first | exact all_u hU _ _ _ | refine all_c rfl ?_ | refine all_a (all_u hU _ _ _) ?_))⟩ ?_
  case' inr.inl =>
    have hv0 : 0 < v.length := List.length_pos_iff.2 hv
    rw [if_neg hv] at hok ⊢
    obtain ⟨hx, hok1⟩ := hok
    have hok1 : okI ok go nx (nx s0 (p, v)) (firstP ks p 16) := hok1 hg
    have hYx := hY s0 _ hx
    rw [hg] at hYx
    rw [show runI go nx s0 ([(p, v)] ++ firstP ks p 16) = runI go nx (nx s0 (p, v)) (firstP ks p 16) by
      rw [List.singleton_append, runI, hg]; rfl]
    generalize nx s0 (p, v) = s1 at *
    have hav1 : ∀ i ∈ [1001, 1002, 1003, 1998, 1011, 1012], aget (U s1) i = none := fun i hi => hU.none_ (hav i hi)
    have hnt1 : ∀ i, Nat.blt i 1000 = true → aget (U s1) i = none := fun i h => hU.small h
    have hy1 := hU.some_ (s' := s1) hy
    refine wk ?_ trueW trueW
    refine DR.yieldO (mi := U s0) (mo := U s1) hYx rfl rfl rfl rfl rfl (ft1 rfl) (by rw [hU.refs, hU.keysOk]; rfl) hy (tpre_tail hU (by repeat (first | exact Tail.nil | refine Tail.cons (by first | exact hnt _ rfl | exact hav _ (by decide)) ?_))) rfl ?_
    refine DR.pp rfl rfl (Does.not rfl rfl) rfl (DR.pp rfl rfl (Does.pick rfl rfl rfl) rfl ?_)
    refine DR.nlS (by kernel_rfl) ?_
    refine LC.condF rfl (LC.skip ?_)
    refine LC.weak (env' := [(1, .p 1001 0), (2, .p 1002 0), (3, .p 1003 0), (6, .p 6 0)]) (mem' := ((6, .b (fkC ks v)) :: bxF ks v p) ++ U s1) ⟨(by repeat (first | exact True.intro | refine And.intro rfl ?_)), ⟨(aget_yield hU (hnt 6 rfl) _).trans rfl, (aget_yield hU (hav 1003 (by decide)) _).trans rfl, (aget_yield hU (hav 1001 (by decide)) _).trans rfl, (aget_yield hU (hav 1002 (by decide)) _).trans rfl, hU.sub _ _⟩, weak_r hU (by simp only [refsE, V.refs]; rfl) (by rw [refsM, fk_refs]; exact bxF_refs _ _ _ _ (some_app_r (A := (6, M.b (fkC ks v)) :: bxF ks v p) _ hy1)) (by repeat (first | exact all_u hU _ _ _ | refine all_c rfl ?_ | refine all_a (all_u hU _ _ _) ?_))⟩ ?_
    show LC _ _ _ _ _ _ ((6, .b (fkC ks v)) :: (bxF ks v p ++ U s1))
    clear hnt
    have hnt := hnt1
    refine wk ?_ trueW trueW
    refine LC.weak (env' := [(1, .p 1001 0), (2, .p 1002 0), (3, .p 1003 0), (52, .a (kdC ks)), (53, .k (.int .i64 ((0 : Nat) : Int)))]) (mem' := bxF ks v p ++ U s1) ⟨(by repeat (first | exact True.intro | refine And.intro rfl ?_)), ⟨rfl, rfl, rfl, (by repeat (first | exact Tail.sub hU1 .nil | exact hU.sub _ _ | refine SubM.skip ?_ (by first | exact hnt1 _ rfl | exact hav1 _ (by decide))))⟩, weak_r hU (by simp only [refsE, V.refs, kd_refs]; rfl) (bxF_refs _ _ _ _ (some_app_r (A := bxF ks v p) _ hy1)) (by repeat (first | exact all_u hU _ _ _ | refine all_c rfl ?_ | refine all_a (all_u hU _ _ _) ?_))⟩ ?_
  case inr.inr =>
    have hv0 : 0 < v.length := List.length_pos_iff.2 hv
    rw [if_neg hv] at hok ⊢
    obtain ⟨hx, _⟩ := hok
    have hYx := hY s0 _ hx
    rw [hg] at hYx
    rw [show runI go nx s0 ([(p, v)] ++ firstP ks p 16) = (nx s0 (p, v), false) by
      rw [List.singleton_append, runI, hg]; rfl]
    refine wk ?_ trueW trueW
    refine DR.yieldO (mi := U s0) (mo := U (nx s0 (p, v))) hYx rfl rfl rfl rfl rfl (ft1 rfl) (by rw [hU.refs, hU.keysOk]; rfl) hy (tpre_tail hU (by repeat (first | exact Tail.nil | refine Tail.cons (by first | exact hnt _ rfl | exact hav _ (by decide)) ?_))) rfl ?_
    refine DR.pp rfl rfl (Does.not rfl rfl) rfl (DR.pp rfl rfl (Does.pick rfl rfl rfl) rfl ?_)
    refine DR.nlS (by kernel_rfl) ?_
    refine LC.condT rfl (LC.ret ?_)
    refine all_end hU ?_ ?_ (hU.sub _ _)
    · exact (aget_yield hU (hav 1001 (by decide)) _).trans (by rw [ndV_fork]; rfl)
    · exact (aget_yield hU (hav 1002 (by decide)) _).trans rfl
  all_goals
    refine LC.loop (α := Nat × σ) (fun x => [(1, .p 1001 0), (2, .p 1002 0), (3, .p 1003 0), (52, .a (kdC ks)), (53, .k (.int .i64 ((x.1 : Nat) : Int)))]) (fun x => bxF ks v p ++ U x.2) (fun x => x.1 ≤ 16 ∧ runI go nx s1 (firstP ks p x.1) = (x.2, true)) (fun x => 16 - x.1) (0, s1) ⟨by omega, rfl⟩ ⟨(by repeat (first | exact True.intro | refine And.intro rfl ?_)), ⟨rfl, rfl, rfl, hU.sub s1 [] |> fun h => SubM.skip (SubM.skip (SubM.skip (by rwa [List.append_nil] at h) (hav1 1002 (by decide))) (hav1 1001 (by decide))) (hav1 1003 (by decide))⟩, weak_r hU (by simp only [refsE, V.refs, kd_refs]; rfl) (bxF_refs _ _ _ _ (some_app_r (A := bxF ks v p) _ hy1)) (by refine all_c rfl (all_c rfl (all_c rfl ?_)); exact all_u hU _ _ _)⟩ ?_
    rintro ⟨i, s⟩ ⟨hi, hs⟩
    dsimp only at hi hs ⊢
    have hav2 : ∀ i ∈ [1001, 1002, 1003, 1998, 1011, 1012], aget (U s) i = none := fun i hi => hU.none_ (hav1 i hi)
    have hnt2 : ∀ i, Nat.blt i 1000 = true → aget (U s) i = none := fun i h => hU.small h
    have hy2 := hU.some_ (s' := s) hy1
    clear hnt
    have hnt := hnt2
    show LC _ _ _ _ _ _ ((1003, .b [.y 1999]) :: (1001, .b [.i 181 (.a (fkC ks v))]) :: (1002, .b [bV (pB p)]) :: U s)
    rcases Nat.lt_or_ge i 16 with h | h
    · have ld3 := @kd_get ks ⟨i, h⟩
      have hkd := kd_len ks
      have hpl := pB_len p
      obtain ⟨r, hr⟩ := firstP_split ks p (i := i + 1) h
      rw [firstP_succ ks p h, List.append_assoc] at hr
      have hk1 := hok1
      rw [hr] at hk1
      have hk1 := (okI_app hk1).2 (by rw [hs])
      rw [hs] at hk1
      have hok2 := (okI_app hk1).1
      have hrun : runI go nx s1 (firstP ks p 16) = runI go nx s (pairs (ks ⟨i, h⟩) (p ++ [⟨i, h⟩]) ++ r) := by
        rw [hr, runI_app, hs]; rfl
      rw [runI_app] at hrun
      have hsu : runI go nx s1 (firstP ks p (i + 1)) = runI go nx s (pairs (ks ⟨i, h⟩) (p ++ [⟨i, h⟩])) := by
        rw [firstP_succ ks p h, runI_app, hs]; rfl
      have hb : bV (pB (p ++ [⟨i, h⟩])) = .s none (List.map bK (pB p) ++ [.k (.int .u8 ((i : Nat) : Int))]) := by
        rw [pB_app]
        show V.s none ((pB p ++ [UInt8.ofNat i]).map bK) = _
        rw [List.map_append]
        show V.s none ((pB p).map bK ++ [.k (.int .u8 ((UInt8.ofNat (⟨i, h⟩ : Fin 16).val).toNat : Int))]) = _
        rw [half_byte]
      have c2 := all_ (ks ⟨i, h⟩) (p ++ [⟨i, h⟩])
      rw [hb] at c2
      have hik := ih ⟨i, h⟩
      generalize p ++ [⟨i, h⟩] = p2 at *
      generalize ks ⟨i, h⟩ = kid at *
      refine wk ?_ trueW trueW
      refine DR.cm rfl rfl (Does.callM c2 rfl rfl (ft1 (by simp only [V.cv, V.cv.go, cond_false, hcv])) (by simp only [V.refs.go, nd_refs]; rfl)) (And.intro (hav2 1011 (by decide)) (And.intro (hav2 1012 (by decide)) True.intro)) rfl ?_
      refine DR.nl rfl (LC.block ?_)
      refine LC.weak (env' := [(1, .p 1001 0), (2, .p 1002 0), (3, .p 1003 0), (52, .a (kdC ks)), (53, .k (.int .i64 ((i : Nat) : Int))), (64, .f (.func 98) [] [.p 1011 0, .p 1012 0])]) (mem' := (bxA 1011 1012 kid p2 ++ bxF ks v p) ++ U s) ⟨(by repeat (first | exact True.intro | refine And.intro rfl ?_)), ⟨rfl, rfl, rfl, rfl, rfl, by repeat (first | exact Tail.sub hU .nil | refine SubM.skip ?_ (by first | exact hnt2 _ rfl | exact hav2 _ (by decide)))⟩, weak_r hU (by simp only [refsE, V.refs, V.refs.go, kd_refs]; rfl) (refsM_app (bxA_refs _ _ _ _ _) (bxF_refs _ _ _ _ (some_app_r (A := bxA 1011 1012 kid p2 ++ bxF ks v p) _ hy2))) (by repeat (first | exact all_u hU _ _ _ | refine all_c rfl ?_ | refine all_a (all_u hU _ _ _) ?_ | refine all_a rfl ?_))⟩ ?_
      have hsub : ∀ (s' : σ) j, (aget (bxF ks v p ++ U s') j).isSome = true → (aget ((bxA 1011 1012 kid p2 ++ bxF ks v p) ++ U s) j).isSome = true := fun s' j hj => by
        rw [List.append_assoc]
        refine some_app_r _ ?_
        rw [aget_append] at hj ⊢
        cases hb2 : aget (bxF ks v p) j with
        | some z => rfl
        | none =>
          rw [hb2] at hj
          simpa using hU.some_ (s := s') (s' := s) (by simpa using hj)
      have hKs : ∀ (s' s'' : σ) (ob ob' : Obj), keysOk ((1998, .o ob) :: (bxF ks v p ++ U s')) ((1998, .o ob') :: (bxF ks v p ++ U s'')) = true := fun s' s'' ob ob' => keysOk_tail hU ((1998, .o ob) :: bxF ks v p) ((1998, .o ob') :: bxF ks v p) s' s'' rfl
      have hit : ∀ lo : LoF, LI Try.prog 98 (.y 1998 :: [.p 1011 0, .p 1012 0]) ((1998, .o (lo .ready none)) :: ((bxA 1011 1012 kid p2 ++ bxF ks v p) ++ U s)) (fun g w => ∀ s x, ok s x → LY Try.prog (g.only ((1998, .o (lo .ready none)) :: (bxF ks v p ++ U s))) w 1998 [bV (pB x.1), bV x.2] ((1998, .o (lo .ready none)) :: (bxF ks v p ++ U s)) fun q m => q = .ret (.k (.bool (go s x))) ∧ m = (1998, .o (endP lo .ret (go s x))) :: (bxF ks v p ++ U (nx s x))) fun q m => q = .ret (.t []) ∧ m = (1998, .o (endP lo .ret (runI go nx s (pairs kid p2)).2)) :: ((bxA 1011 1012 kid p2 ++ bxF ks v p) ++ U (runI go nx s (pairs kid p2)).1) := fun lo => by
        have h2 := hik (σ × Bool) (fun t => ((1998, .o (endP lo .ret t.2)) :: bxF ks v p) ++ U t.1) (ok2 ok) (go2 go) (nx2 go nx) (s, true) 1998 1011 1012 (Ms.ext hU Prod.fst (fun t => (1998, .o (endP lo .ret t.2)) :: bxF ks v p) [1998, 1003, 1001, 1002] (fun _ => rfl) (by decide) (by decide) s (fun k hk => by
            simp only [List.mem_cons, List.not_mem_nil, or_false] at hk
            rcases hk with rfl | rfl | rfl | rfl
            · exact hav2 1998 (by decide)
            · exact hav2 1003 (by decide)
            · exact hav2 1001 (by decide)
            · exact hav2 1002 (by decide)) (fun t => bxF_refs _ _ _ _ (some_app_r (A := (1998, .o (endP lo .ret t.2)) :: bxF ks v p) _ (hU.some_ (s := s) hy2)))) rfl (hav2 1011 (by decide)) (hav2 1012 (by decide)) (by decide) (by decide) (by decide) (okI2 hok2)
        have ord : ∀ (ob : Obj) (T : Mem) j, aget (bxA 1011 1012 kid p2 ++ (((1998, .o ob) :: bxF ks v p) ++ T)) j = aget ((1998, .o ob) :: ((bxA 1011 1012 kid p2 ++ bxF ks v p) ++ T)) j := fun ob T j => by
          simp only [bxA, List.cons_append, List.nil_append, aget_cons]
          by_cases h1 : 1011 = j
          · rw [if_pos h1, if_neg (by omega), if_pos h1]
          · rw [if_neg h1]
            by_cases h2 : 1012 = j
            · rw [if_pos h2, if_neg (by omega), if_neg h1, if_pos h2]
            · rw [if_neg h2, if_neg h1, if_neg h2]
        refine h2.congr (ord _ _) (fun g w hY2 => ?_) fun o m hm => ?_
        · rintro ⟨s', b⟩ x ⟨hb1, hx⟩
          obtain rfl : b = true := hb1
          exact hY2 s' x hx
        · obtain ⟨rfl, rfl⟩ := hm
          rw [run2]
          exact ⟨_, ⟨rfl, rfl⟩, ord _ _⟩
      refine LC.range2 (y := 1998) (m1 := (bxA 1011 1012 kid p2 ++ bxF ks v p) ++ U (runI go nx s (pairs kid p2)).1) [(3, .p 1003 0)] ok (fun x => bV (pB x.1)) (fun x => bV x.2) (fun s => bxF ks v p ++ U s) go nx (runI go nx s (pairs kid p2)).2 .ret .ret (.inr ⟨rfl, rfl⟩) hlm hro rfl rfl rfl (hav2 1998 (by decide)) rfl ⟨rfl, trivial⟩ (fun s ob => rfl) hsub (fun ob => ?_) (fun s => big_tail hU _ s rfl) (fun s x _ ob ob' => hKs _ _ _ _) (fun lo FR hFR s x hx hev => ?_) hit (fun ob ob' => ?_) ?_ (fun hfin => ?_) (fun hfin => ?_)
      · have e1 : refsM ((1998, .o ob) :: ((bxA 1011 1012 kid p2 ++ bxF ks v p) ++ U s)) ((1998, .o ob) :: ((bxA 1011 1012 kid p2 ++ bxF ks v p) ++ U s)) = true := refsM_tail hU ((1998, .o ob) :: (bxA 1011 1012 kid p2 ++ bxF ks v p)) s (refsM_app (bxA_refs _ _ _ _ _) (bxF_refs _ _ _ _ (some_app_r (A := (1998, .o ob) :: (bxA 1011 1012 kid p2 ++ bxF ks v p)) _ hy2)))
        rw [e1]; rfl
      · have hav3 : ∀ i ∈ [1001, 1002, 1003, 1998, 1011, 1012], aget (U s) i = none := fun i hi => hU.none_ (hav2 i hi)
        have hy3 := hU.some_ (s := s1) (s' := s) hy1
        have hnt : ∀ i, Nat.blt i 1000 = true → aget (U s) i = none := fun i h => hU.small h
        have hYx := (hY s x hx).later (hev (U s) fun j hj => some_app_r _ hj)
        clear hit hik hsub hKs
        cases hg : go s x with
        | true =>
          rw [hg] at hYx
          refine wk ?_ trueW trueW
          refine ⟨rfl, ?_⟩
          show LC _ _ _ _ _ _ ((1998, .o (lo .busy none)) :: (1998, .o (lo .ready none)) :: (1003, .b [.y 1999]) :: (1001, .b [.i 181 (.a (fkC ks v))]) :: (1002, .b [bV (pB p)]) :: U s)
          refine wk ?_ trueW trueW
          refine DR.yieldO (mi := U s) (mo := U (nx s x)) hYx rfl rfl rfl rfl rfl (.same _) (by rw [hU.refs, hU.keysOk]; rfl) hy3 (tpre_tail hU (by repeat (first | exact Tail.nil | refine Tail.cons (by first | exact hnt _ rfl | exact hav3 _ (by decide)) ?_))) rfl ?_
          refine DR.pp rfl rfl (Does.not rfl rfl) rfl (DR.nl rfl ?_)
          refine LC.condF rfl (LC.skip ?_)
          refine lblk_n ?_
          exact ⟨(aget_yield hU (hav3 1998 (by decide)) _).trans rfl, (1998, .o (lo .ready none)) :: (bxF ks v p ++ U (nx s x)), ⟨rfl, (aget_yield hU (hav3 1003 (by decide)) _).trans rfl, (aget_yield hU (hav3 1001 (by decide)) _).trans rfl, (aget_yield hU (hav3 1002 (by decide)) _).trans rfl, SubM.skip (hU.sub _ _) (hU.none_ (hav3 1998 (by decide)))⟩, refsM_tail hU ((1998, .o (lo .ready none)) :: bxF ks v p) _ (bxF_refs _ _ _ _ (some_app_r (A := (1998, .o (lo .ready none)) :: bxF ks v p) _ (hU.some_ (s := s) hy3))), rfl, rfl⟩
        | false =>
          rw [hg] at hYx
          refine wk ?_ trueW trueW
          refine ⟨rfl, ?_⟩
          show LC _ _ _ _ _ _ ((1998, .o (lo .busy none)) :: (1998, .o (lo .ready none)) :: (1003, .b [.y 1999]) :: (1001, .b [.i 181 (.a (fkC ks v))]) :: (1002, .b [bV (pB p)]) :: U s)
          refine wk ?_ trueW trueW
          refine DR.yieldO (mi := U s) (mo := U (nx s x)) hYx rfl rfl rfl rfl rfl (.same _) (by rw [hU.refs, hU.keysOk]; rfl) hy3 (tpre_tail hU (by repeat (first | exact Tail.nil | refine Tail.cons (by first | exact hnt _ rfl | exact hav3 _ (by decide)) ?_))) rfl ?_
          refine DR.pp rfl rfl (Does.not rfl rfl) rfl (DR.nl rfl ?_)
          refine LC.condT rfl (LC.ret ?_)
          refine lblk_r ?_
          exact ⟨(aget_yield hU (hav3 1998 (by decide)) _).trans rfl, (1998, .o (lo .done (some .ret))) :: (bxF ks v p ++ U (nx s x)), ⟨rfl, (aget_yield hU (hav3 1003 (by decide)) _).trans rfl, (aget_yield hU (hav3 1001 (by decide)) _).trans rfl, (aget_yield hU (hav3 1002 (by decide)) _).trans rfl, SubM.skip (hU.sub _ _) (hU.none_ (hav3 1998 (by decide)))⟩, refsM_tail hU ((1998, .o (lo .done (some .ret))) :: bxF ks v p) _ (bxF_refs _ _ _ _ (some_app_r (A := (1998, .o (lo .done (some .ret))) :: bxF ks v p) _ (hU.some_ (s := s) hy3))), rfl, rfl⟩
      · exact keysOk_tail hU ((1998, .o ob) :: (bxA 1011 1012 kid p2 ++ bxF ks v p)) ((1998, .o ob') :: (bxA 1011 1012 kid p2 ++ bxF ks v p)) _ _ rfl
      · have e1 : refsM ((1998, .x) :: ((bxA 1011 1012 kid p2 ++ bxF ks v p) ++ U (runI go nx s (pairs kid p2)).1)) ((1998, .x) :: ((bxA 1011 1012 kid p2 ++ bxF ks v p) ++ U (runI go nx s (pairs kid p2)).1)) = true := refsM_tail hU ((1998, .x) :: (bxA 1011 1012 kid p2 ++ bxF ks v p)) _ (refsM_app (bxA_refs _ _ _ _ _) (bxF_refs _ _ _ _ (some_app_r (A := (1998, .x) :: (bxA 1011 1012 kid p2 ++ bxF ks v p)) _ (hU.some_ (s := s) hy2))))
        rw [e1, Bool.and_true]
        simp only [refsE, V.refs, V.refs.go, kd_refs]
        rfl
      · refine LC.weakK (env' := [(1, .p 1001 0), (2, .p 1002 0), (3, .p 1003 0), (52, .a (kdC ks)), (53, .k (.int .i64 ((i : Nat) : Int)))]) (mem' := bxF ks v p ++ U (runI go nx s (pairs kid p2)).1) (by repeat (first | exact True.intro | refine And.intro rfl ?_)) ⟨rfl, rfl, rfl, (by repeat (first | exact Tail.sub hU .nil | refine SubM.skip ?_ (hU.none_ (hav2 _ (by decide)))))⟩ (by simp only [refsE, V.refs, kd_refs]; rfl) (refsM_tail hU _ _ (bxF_refs _ _ _ _ (some_app_r (A := bxF ks v p) _ (hU.some_ (s := s) hy2)))) (fun j hj => hkF j ?_) ?_
        · rw [aget_append] at hj ⊢
          have e1 : aget (bxF ks v p) j = none := by
            cases h : aget (bxF ks v p) j with
            | none => rfl
            | some z => rw [h] at hj; cases hj
          rw [e1] at hj
          have e2 : aget (bxA 1001 1002 (.fork ks v) p) j = none := by
            simp only [bxF, bxA, aget_cons] at e1 ⊢
            by_cases h1 : 1003 = j
            · rw [if_pos h1] at e1; cases e1
            · rw [if_neg h1] at e1
              by_cases h2 : 1001 = j
              · rw [if_pos h2] at e1; cases e1
              · rw [if_neg h2] at e1 ⊢
                by_cases h3 : 1002 = j
                · rw [if_pos h3] at e1; cases e1
                · rw [if_neg h3]; rfl
          rw [e2]
          exact hU.none_ (s := (runI go nx s (pairs kid p2)).1) (by simpa using hj)
        show LC _ _ _ _ _ _ ((1003, .b [.y 1999]) :: (1001, .b [.i 181 (.a (fkC ks v))]) :: (1002, .b [bV (pB p)]) :: U (runI go nx s (pairs kid p2)).1)
        refine wk ?_ trueW trueW
        refine ⟨(i + 1, (runI go nx s (pairs kid p2)).1), ⟨h, ?_⟩, ?_, ⟨(by repeat (first | exact True.intro | refine And.intro rfl ?_)), ⟨rfl, rfl, rfl, (by repeat (first | exact Tail.sub hU .nil | refine SubM.skip ?_ (hU.none_ (hav2 _ (by decide)))))⟩, weak_r hU (by simp only [refsE, V.refs, kd_refs]; rfl) (bxF_refs _ _ _ _ (some_app_r (A := bxF ks v p) _ (hU.some_ (s := s) hy2))) (by repeat (first | exact all_u hU _ _ _ | refine all_c rfl ?_))⟩⟩
        · rw [hsu]
          show runI go nx s (pairs kid p2) = ((runI go nx s (pairs kid p2)).1, true)
          rw [← hfin]
        · show 16 - (i + 1) < 16 - i
          omega
      · have e : runI go nx s1 (firstP ks p 16) = runI go nx s (pairs kid p2) := by rw [hrun, hfin]; rfl
        rw [e]
        refine all_end hU ?_ rfl ?_
        · rw [ndV_fork]; rfl
        · exact (by repeat (first | exact Tail.sub hU .nil | refine SubM.skip ?_ (hU.none_ (hav2 _ (by decide)))))
    · obtain rfl : i = 16 := by omega
      rw [hs]
      refine wk ?_ trueW trueW
      refine all_end hU ?_ rfl ?_
      · rw [ndV_fork]; rfl
      · exact SubM.skip (SubM.skip (SubM.skip (Tail.sub hU .nil) (hav2 1002 (by decide))) (hav2 1001 (by decide))) (hav2 1003 (by decide))
end Te
end Lf
open Go.RowKit Rg Wm Ar
set_option linter.unusedVariables false
set_option maxRecDepth 100000
namespace Lf
open Tr
theorem LM.enterRR {P : Program} (X : TOk P) {f N : Nat} {fn : Func} {c : Code} {args : List V} {rs : List ResultVar} {mi : Mem} {R : Out → Mem → Prop} (hf : P.funcs[f]? = some fn) (hb : fn.body = some c) (hN : fn.ntmps = N) (hrs : fn.results = rs.toArray) (hok : callOk P f = true)
    (hle : Nat.ble args.length N = true) (hrl : Nat.ble rs.length 3 = true) (hbig : (mi.all fun x => Nat.ble 1000 x.1) = true) (hks : ∀ o mo, R o mo → keysOk mi mo = true) (h : ∀ F, F.D = [] → F.ro = none → F.lm = true → (∀ i, aget mi i = none → F.bx0 i = none ∧ F.rw0 i = none) → LC P F N c (LRet X rs R) (params 0 args) mi) : LM P f args mi R :=
  ⟨hok, fun _ _ _ hm hl hr => enter_core X hf hb hN hrs hle hrl hbig hks hm hl hr true (h _ rfl rfl rfl fun i hi => ⟨hm.nbx i hi, hm.nrw i hi⟩)⟩
theorem allC : ∀ (n : Nd) (p : Pa), Right n p.length → AllC n p := by
  intro n
  induction n with
  | no => intro p _; exact (Te.allT_no p).gen
  | leaf q v =>
    intro p h
    have := right_le h (by intro e; cases e)
    exact (Te.allT_leaf p q v (by have h2 : p.length + q.length ≤ 64 := this; omega)).gen
  | road q k ih =>
    intro p h
    have := right_le h (by intro e; cases e)
    refine (Te.allT_road p q k (by have h2 : p.length + q.length ≤ 64 := this; omega) (ih (p ++ q) ?_)).gen
    rw [List.length_append]; exact h.2.2
  | fork ks v ih =>
    intro p h
    have := right_le h (by intro e; cases e)
    refine (Te.allT_fork p ks v (by have h2 : p.length + 0 ≤ 64 := this; omega) fun i => ih i (p ++ [i]) ?_).gen
    rw [List.length_append]; exact h.2.2.1 i
theorem LC.renK {P : Program} {F : Fr0} {N : Nat} {Q : LQ} {env env' : Env} {mem mem' : Mem} {c : Code} (ks is : List Nat) (hk : ks.Nodup) (hi : is.Nodup) (hl : ks.length = is.length)
    (hfr : ∀ i, i ∈ ks ∨ i ∈ is → F.bx0 i = none ∧ F.rw0 i = none) (hren : ∀ ρ : Pm, ks.map ρ.f = is → (∀ i, i ∉ ks → i ∉ is → ρ.f i = i) → Mem.ren ρ.f mem' = mem ∧ ∀ t v, aget env' t = some v → aget env t = some (v.ren ρ.f)) (h : LC P F N c Q env' mem') : LC P F N c Q env mem := by
  obtain ⟨ρ, hρ, hfix⟩ := exists_pmf ks is hk hi hl
  obtain ⟨h1, h2⟩ := hren ρ hρ hfix
  have hcl : ∀ i, i ∈ ks ∨ i ∈ is → ρ.f i ∈ ks ∨ ρ.f i ∈ is := fun i hi => Classical.byContradiction fun hn => by
    have hn1 : ρ.f i ∉ ks := fun e => hn (.inl e)
    have hn2 : ρ.f i ∉ is := fun e => hn (.inr e)
    have := ρ.inj (hfix _ hn1 hn2)
    rcases hi with hi | hi
    · exact hn1 (by rw [this]; exact hi)
    · exact hn2 (by rw [this]; exact hi)
  have hsame : ∀ i, F.bx0 (ρ.f i) = F.bx0 i ∧ F.rw0 (ρ.f i) = F.rw0 i := fun i => by
    by_cases hm : i ∈ ks ∨ i ∈ is
    · obtain ⟨a1, a2⟩ := hfr i hm
      obtain ⟨b1, b2⟩ := hfr _ (hcl i hm)
      rw [a1, a2, b1, b2]; exact ⟨rfl, rfl⟩
    · rw [hfix i (fun e => hm (.inl e)) (fun e => hm (.inr e))]; exact ⟨rfl, rfl⟩
  refine ⟨fun F0 hx g a w hr => h.go F0 hx (g.pull ρ.f) a w ?_⟩
  have hp : F0.pull ρ.f = F0 := by
    unfold Fr0.pull
    have e1 : (fun i => F0.bx0 (ρ.f i)) = F0.bx0 := funext fun i => by rw [hx.bx]; exact (hsame i).1
    have e2 : (fun i => F0.rw0 (ρ.f i)) = F0.rw0 := funext fun i => by rw [hx.rw]; exact (hsame i).2
    rw [e1, e2]
  have hm := relM_pull ρ (F := F0) (g := g) (mem := mem') (w := w) (by rw [h1]; exact hr.mem)
  rw [hp] at hm
  refine ⟨fun t v hv => ?_, hm, ⟨hr.kept.os, hr.kept.tape, hr.kept.output, hr.kept.size, hr.kept.blk, hr.kept.cell, hr.kept.S1, hr.kept.S2, hr.kept.cellS⟩, hr.defers, hr.size, hr.big⟩
  obtain ⟨x, e1, e2⟩ := hr.env t _ (h2 t v hv)
  exact ⟨x, e1, rep_pull ρ e2⟩
theorem aget_renE (ρ : Nat → Nat) : ∀ (l : Env) {t : Nat} {v : V}, aget l t = some v → aget (l.map fun x => (x.1, x.2.ren ρ)) t = some (v.ren ρ)
  | [], _, _, h => by cases h
  | (a, x) :: l, t, v, h => by
    rw [List.map_cons, aget_cons]
    rw [aget_cons] at h
    split at h
    · rename_i e; rw [if_pos e]; cases h; rfl
    · rename_i e; rw [if_neg e]; exact aget_renE ρ l h
theorem get_ends : ∀ {n : Nd} {d : Nat}, Right n d → ∀ q, Tr.get n q ≠ [] → ends (d + q.length)
  | .no, _, _, q, hg => absurd rfl hg
  | .leaf p v, _, h, q, hg => by rw [leaf_one hg]; exact h.1
  | .road p k, d, h, q, hg => by
    obtain ⟨r, rfl, h2⟩ := get_road_in hg
    have := get_ends h.2.2 r h2
    rw [List.length_append, ← Nat.add_assoc]; exact this
  | .fork ks v, d, h, [], hg => h.2.1 hg
  | .fork ks v, d, h, x :: q, hg => by
    have := get_ends (h.2.2.1 x) q hg
    rw [List.length_cons, show d + (q.length + 1) = d + 1 + q.length by omega]; exact this
theorem pairs_size : ∀ (n : Nat) (x : Rn) (p : Pa), x.size ≤ n → (pairs (toN x) p).length ≤ x.size := by
  intro n
  induction n with
  | zero => intro x p hx; obtain ⟨k, q, v, ks⟩ := x; rw [size_eq] at hx; omega
  | succ n ih =>
    intro x p hx
    obtain ⟨k, q, v, ks⟩ := x
    rw [size_eq] at hx ⊢
    rw [toN_eq]
    have kid : ∀ i p, (pairs (toN (ks.getD i default)) p).length ≤ (ks.getD i default).size := fun i p => by
      rcases Nat.lt_or_ge i ks.length with h | h
      · exact ih _ p (by have := sizeL_get h; omega)
      · rw [List.getD_eq_getElem?_getD, List.getElem?_eq_none h, Option.getD_none, toN_default]
        exact Nat.zero_le _
    by_cases h1 : k = 1
    · rw [if_pos h1]; show 1 ≤ _; omega
    rw [if_neg h1]
    by_cases h2 : k = 2
    · rw [if_pos h2]
      show (pairs (toN (ks.getD 0 default)) _).length ≤ _
      have h3 := kid 0 (p ++ pOf q)
      rcases Nat.lt_or_ge 0 ks.length with h | h
      · have := sizeL_get h; omega
      · rw [List.getD_eq_getElem?_getD, List.getElem?_eq_none h, Option.getD_none, toN_default]
        exact Nat.zero_le _
    rw [if_neg h2]
    by_cases h3 : k = 3
    · rw [if_pos h3]
      show ((if v = [] then [] else [(p, v)]) ++ (List.finRange 16).flatMap fun i => pairs (toN (ks.getD i.val default)) (p ++ [i])).length ≤ _
      have hv : (if v = [] then [] else [(p, v)] : List Al).length ≤ v.length := by
        by_cases h : v = []
        · rw [if_pos h]; exact Nat.zero_le _
        · rw [if_neg h]; exact List.length_pos_iff.2 h
      have app : ∀ (a b : List Rn), Rn.sizeL (a ++ b) = Rn.sizeL a + Rn.sizeL b := by
        intro a b
        induction a with
        | nil => simp [Rn.sizeL]
        | cons k r ih => simp only [List.cons_append, Rn.sizeL, ih]; omega
      have hsum : ∀ m, m ≤ 16 → (((List.finRange 16).take m).flatMap fun i => pairs (toN (ks.getD i.val default)) (p ++ [i])).length ≤ Rn.sizeL (ks.take m) := by
        intro m hm
        induction m with
        | zero => simp
        | succ m ihm =>
          rw [List.take_succ_eq_append_getElem (by rw [List.length_finRange]; exact hm), List.flatMap_append, List.length_append, List.getElem_finRange]
          have h5 := ihm (by omega)
          have h6 := kid m (p ++ [⟨m, hm⟩])
          simp only [List.flatMap_cons, List.flatMap_nil, List.append_nil]
          have h7 : Rn.sizeL (ks.take (m + 1)) = Rn.sizeL (ks.take m) + (if m < ks.length then (ks.getD m default).size + 1 else 0) := by
            rcases Nat.lt_or_ge m ks.length with h | h
            · rw [if_pos h, List.take_succ_eq_append_getElem h, app, List.getD_eq_getElem?_getD, List.getElem?_eq_getElem h]
              simp [Rn.sizeL]
            · rw [if_neg (by omega), List.take_of_length_le (by omega), List.take_of_length_le h, Nat.add_zero]
          rw [h7]
          rcases Nat.lt_or_ge m ks.length with h | h
          · rw [if_pos h]
            have h8 : (pairs (toN (ks.getD (Fin.cast List.length_finRange.symm.symm ⟨m, by rw [List.length_finRange]; exact hm⟩).val default)) (p ++ [Fin.cast List.length_finRange.symm.symm ⟨m, by rw [List.length_finRange]; exact hm⟩])).length ≤ (ks.getD m default).size := h6
            omega
          · rw [if_neg (by omega)]
            have h8 : (pairs (toN (ks.getD (Fin.cast List.length_finRange.symm.symm ⟨m, by rw [List.length_finRange]; exact hm⟩).val default)) (p ++ [Fin.cast List.length_finRange.symm.symm ⟨m, by rw [List.length_finRange]; exact hm⟩])).length = 0 := by
              show (pairs (toN (ks.getD m default)) _).length = 0
              rw [List.getD_eq_getElem?_getD, List.getElem?_eq_none h, Option.getD_none, toN_default]; rfl
            omega
      have h9 := hsum 16 (Nat.le_refl _)
      rw [List.take_of_length_le (by rw [List.length_finRange]; exact Nat.le_refl 16)] at h9
      have h10 := app (ks.take 16) (ks.drop 16)
      rw [List.take_append_drop] at h10
      rw [List.length_append]
      omega
    · rw [if_neg h3]; exact Nat.zero_le _
def pkB (x : Al) : Pr := (keyB x.1, x.2)
def memP (S : List Pr) : Mem := [(1004, .b [.s (some 1090) (S.map prV)]), (1090, .r 66 2 S.length)]
def okP (S : List Pr) (x : Al) : Prop := S.length < 100000000 ∧ x.1.length % 2 = 0 ∧ x.1.length ≤ 64 ∧ x.2.length ≤ 1024
def nxP (S : List Pr) (x : Al) : List Pr := S ++ [pkB x]
def goP (_ : List Pr) (_ : Al) : Bool := true
theorem runP : ∀ (l : List Al) (S : List Pr), runI goP nxP S l = (S ++ l.map pkB, true)
  | [], S => by simp [runI]
  | x :: l, S => by
    show cond true (runI goP nxP (nxP S x) l) _ = _
    rw [cond_true, runP l]
    simp [nxP]
theorem okIP : ∀ (l : List Al) (S : List Pr), (∀ x ∈ l, x.1.length % 2 = 0 ∧ x.1.length ≤ 64 ∧ x.2.length ≤ 1024) → S.length + l.length < 100000000 → okI okP goP nxP S l
  | [], _, _, _ => trivial
  | x :: l, S, h, hl => by
    simp only [List.length_cons] at hl
    exact ⟨⟨by omega, h x (by simp)⟩, fun _ => okIP l _ (fun y hy => h y (by simp [hy])) (by simp [nxP]; omega)⟩
def pairsOf (n : Nd) : List Pr := (pairs n []).map pkB
namespace Te
set_option maxHeartbeats 8000000 in
theorem Pairs_ok (x : Rn) (hx : x.size < 50000000) (hr : rt x 0 = true) : LM Try.prog 34 [rnV x] [] fun o m => o = .ret (.t [prsV (pairsOf (toN x)), erV 0]) ∧ m = [] := by
  have c1 := Right_ x (by omega)
  rw [hr] at c1
  have hR := rt_right x.size x 0 (Nat.le_refl _) hr
  have hk4 := rnC_len x
  have hrf := tr_refs
  have hcv := tr_cv
  have c2 := inner_ x.size x 0 (Nat.le_refl _) (by omega) hr
  have c3 := all_ (toN x) []
  have hsz := pairs_size x.size x [] (Nat.le_refl _)
  have hok : okI okP goP nxP [] (pairs (toN x) []) := okIP _ _ (fun y hy => by
    obtain ⟨q, w⟩ := y
    obtain ⟨r, hq, h1, h2⟩ := (mem_pairs (toN x) [] 0 hR q w).1 hy
    have hq : q = r := hq
    rw [← hq] at h1
    have h3 := get_ends hR q (by rw [h1]; exact h2)
    have h4 := get_len hR q
    rw [h1] at h4
    rw [Nat.zero_add] at h3
    exact ⟨h3.1, h3.2, h4⟩) (by simp; omega)
  refine LM.enterRR tt Try.func34 rfl rfl rfl (by kernel_rfl) rfl rfl rfl (fun o mo h => by rw [h.2]; rfl) fun F hD hro hlm hkF => ?_
  have hal := allC (toN x) [] hR
  have hrp := runP (pairs (toN x) []) []
  refine wk ?_ trueW trueW
  refine LC.weak (env' := [(14, .f (.func 98) [] [.p 1011 0, .p 1012 0]), (4, .p 4 0)]) (mem' := bxA 1011 1012 (toN x) [] ++ [(4, .b [.nil])]) ⟨(by repeat (first | exact True.intro | refine And.intro rfl ?_)), (by repeat (first | exact True.intro | refine And.intro rfl ?_)), ?_⟩ ?_
  · have e1 := bxA_refs 1011 1012 (toN x) [] (bxA 1011 1012 (toN x) [] ++ [(4, .b [.nil])])
    rw [refsM_app e1 rfl]
    rfl
  refine LC.nilcell 4 0 1090 66 2 rfl rfl rfl (by decide) rfl ?_
  refine LC.weak (env' := [(14, .f (.func 98) [] [.p 1011 0, .p 1012 0]), (4, .p 4 0)]) (mem' := bxA 1011 1012 (toN x) [] ++ [(4, .b [.s (some 1090) []]), (1090, .r 66 2 0)]) ⟨(by repeat (first | exact True.intro | refine And.intro rfl ?_)), (by repeat (first | exact True.intro | refine And.intro rfl ?_)), ?_⟩ ?_
  · have e1 := bxA_refs 1011 1012 (toN x) [] (bxA 1011 1012 (toN x) [] ++ [(4, .b [.s (some 1090) []]), (1090, .r 66 2 0)])
    rw [refsM_app e1 rfl]
    rfl
  refine LC.renK (env' := [(14, .f (.func 98) [] [.p 1011 0, .p 1012 0]), (4, .p 1004 0)]) (mem' := bxA 1011 1012 (toN x) [] ++ memP []) [1004] [4] (by decide) (by decide) rfl (fun i _ => hkF i rfl) (fun ρ hρ hfix => ?_) ?_
  · simp only [List.map_cons, List.map_nil, List.cons.injEq, and_true] at hρ
    have f1 := hfix 1011 (by decide) (by decide)
    have f2 := hfix 1012 (by decide) (by decide)
    have f3 := hfix 1090 (by decide) (by decide)
    refine ⟨?_, fun t v hv => ?_⟩
    · simp only [Mem.ren, bxA, memP, List.cons_append, List.nil_append, List.map_cons, List.map_nil, M.ren, V.ren, nd_ren, hρ, f1, f2, f3]
      rfl
    · have h3 := aget_renE ρ.f _ hv
      simp only [List.map_cons, List.map_nil, V.ren, V.ren.go, hρ, f1, f2] at h3
      exact h3
  have hU : Ms (fun S => ((1999, .x) : Nat × M) :: memP S) := ⟨fun _ _ => rfl, fun _ => by simp [memP], fun _ => rfl, fun _ => rfl⟩
  refine LC.range2 (y := 1999) (m1 := bxA 1011 1012 (toN x) [] ++ memP (pairsOf (toN x))) [(4, .p 1004 0)] okP (fun x => bV (pB x.1)) (fun x => bV x.2) memP goP nxP true (.exit 0) (.exit 0) (.inl ⟨0, rfl, rfl⟩) hlm hro rfl rfl rfl rfl rfl ⟨rfl, trivial⟩ (fun s ob => rfl) (fun s i hi => ?_) (fun ob => ?_) (fun s => rfl) (fun s x _ ob ob' => rfl) (fun lo FR hFR s x hx hev => ?_) (fun lo => ?_) (fun ob ob' => rfl) ?_ (fun _ => ?_) (fun hfin => by cases hfin)
  · rw [aget_mem_keys] at hi ⊢
    rw [List.map_append]
    exact List.mem_append_right _ hi
  · have e1 : refsM ((1999, .o ob) :: (bxA 1011 1012 (toN x) [] ++ memP [])) ((1999, .o ob) :: (bxA 1011 1012 (toN x) [] ++ memP [])) = true := refsM_app (A := bxA 1011 1012 (toN x) []) (bxA_refs _ _ _ _ _) rfl
    rw [e1]; rfl
  · obtain ⟨h1, h2, h3, h4⟩ := hx
    have c4 := Join_ x.1 (by omega) h2
    have c5 := own_ x.2 (by omega)
    have hcl : ∀ e ∈ s.map prV, e.cells.length = 2 := fun e he => by
      obtain ⟨z, _, rfl⟩ := List.mem_map.1 he
      exact prC_len z
    clear hal hok c1 c2 c3
    refine wk ?_ trueW trueW
    refine ⟨rfl, ?_⟩
    show LC _ _ _ _ _ _ ((1999, .o (lo .busy none)) :: (1999, .o (lo .ready none)) :: (1004, .b [.s (some 1090) (s.map prV)]) :: (1090, .r 66 2 s.length) :: [])
    refine wk ?_ trueW trueW
    have e : s.map prV ++ [V.a [bV (keyB x.1), bV x.2]] = (nxP s x).map prV := by
      simp only [nxP, List.map_append, List.map_cons, List.map_nil, prV, prC_eq, pkB]
    have el : (s.map prV ++ [V.a [bV (keyB x.1), bV x.2]]).length = (nxP s x).length := by rw [e, List.length_map]
    refine ⟨rfl, (1999, .o (lo .ready none)) :: memP (nxP s x), ⟨rfl, ?_, ?_, trivial⟩, rfl, rfl, rfl⟩
    · rw [← e]; rfl
    · rw [← el]; rfl
  · have hi := hal (List Pr) (fun S => (1999, .o (lo .ready none)) :: memP S) okP goP nxP [] 1999 1011 1012 ⟨fun _ _ => rfl, fun _ => by simp [memP], fun _ => rfl, fun _ => rfl⟩ rfl rfl rfl (by decide) (by decide) (by decide) hok
    have ord : ∀ (ob : Obj) (T : Mem) j, aget (bxA 1011 1012 (toN x) [] ++ ((1999, .o ob) :: T)) j = aget ((1999, .o ob) :: (bxA 1011 1012 (toN x) [] ++ T)) j := fun ob T j => by
      simp only [bxA, List.cons_append, List.nil_append, aget_cons]
      by_cases h1 : 1011 = j
      · rw [if_pos h1, if_neg (by omega), if_pos h1]
      · rw [if_neg h1]
        by_cases h2 : 1012 = j
        · rw [if_pos h2, if_neg (by omega), if_neg h1, if_pos h2]
        · rw [if_neg h2, if_neg h1, if_neg h2]
    refine hi.congr (ord _ _) (fun g w hY s x hx => hY s x hx) fun o m hm => ?_
    obtain ⟨rfl, rfl⟩ := hm
    rw [hrp]
    exact ⟨_, ⟨rfl, rfl⟩, ord _ _⟩
  · have e1 : refsM ((1999, .x) :: (bxA 1011 1012 (toN x) [] ++ memP (pairsOf (toN x)))) ((1999, .x) :: (bxA 1011 1012 (toN x) [] ++ memP (pairsOf (toN x)))) = true := refsM_app (A := bxA 1011 1012 (toN x) []) (bxA_refs _ _ _ _ _) rfl
    rw [e1]; rfl
  · show LC _ _ _ _ _ _ _
    exact wk trueW trueW trueW
end Te
end Lf
open Go.RowKit Rg Rp Go.WideShapes Go.ChangeShapes
namespace Lf
def RO (W : World) : List V → List Value → Prop
  | [], [] => True
  | u :: us, c :: cs => (u.one = true ∧ Rep W allS u c) ∧ RO W us cs
  | _, _ => False
theorem RO.append {W : World} : ∀ {us : List V} {cs : List Value} {vs : List V} {ds : List Value}, RO W us cs → RO W vs ds → RO W (us ++ vs) (cs ++ ds)
  | [], [], _, _, _, h => h
  | _u :: _us, _c :: _cs, _, _, h, k => ⟨h.1, RO.append h.2 k⟩
  | [], _ :: _, _, _, h, _ => h.elim
  | _ :: _, [], _, _, h, _ => h.elim
theorem RO.spec {W : World} : ∀ {us : List V} {cs : List Value}, RO W us cs → us.length = cs.length ∧ ∀ (j : Nat) u c, us[j]? = some u → cs[j]? = some c → u.one = true ∧ Rep W allS u c
  | [], [], _ => ⟨rfl, fun j u c h => by simp at h⟩
  | u :: us, c :: cs, h => by
    obtain ⟨h1, h2⟩ := RO.spec h.2
    refine ⟨by simp [h1], fun j a b ha hb => ?_⟩
    cases j with
    | zero => simp at ha hb; subst ha; subst hb; exact h.1
    | succ j => simp at ha hb; exact h2 j a b ha hb
  | [], _ :: _, h => h.elim
  | _ :: _, [], h => h.elim
theorem RO.flatten {W : World} : ∀ {uss : List (List V)} {css : List (List Value)}, uss.length = css.length → (∀ (j : Nat) us cs, uss[j]? = some us → css[j]? = some cs → RO W us cs) → RO W uss.flatten css.flatten
  | [], [], _, _ => trivial
  | us :: uss, cs :: css, hl, h => by
    rw [List.flatten_cons, List.flatten_cons]
    exact (h 0 us cs rfl rfl).append (RO.flatten (by simpa using hl) fun j a b ha hb => h (j + 1) a b (by simpa using ha) (by simpa using hb))
  | [], _ :: _, hl, _ => by simp at hl
  | _ :: _, [], hl, _ => by simp at hl
theorem mapM_some {α β : Type} {f : α → Option β} : ∀ {l : List α} {r : List β}, l.mapM f = some r → r.length = l.length ∧ ∀ (j : Nat) a, l[j]? = some a → ∃ b, r[j]? = some b ∧ f a = some b
  | [], r, h => by simp at h; subst h; simp
  | a :: l, r, h => by
    simp only [List.mapM_cons, Option.bind_eq_bind, Option.pure_def] at h
    obtain ⟨b, hb, h⟩ := Option.bind_eq_some_iff.1 h
    obtain ⟨bs, hbs, h⟩ := Option.bind_eq_some_iff.1 h
    cases h
    obtain ⟨h1, h2⟩ := mapM_some hbs
    refine ⟨by simp [h1], fun j x hj => ?_⟩
    cases j with
    | zero => simp at hj; subst hj; exact ⟨b, rfl, hb⟩
    | succ j => simp at hj; exact h2 j x hj
theorem list_choose {α : Type} {p : Nat → α → Prop} : ∀ (n : Nat), (∀ j, j < n → ∃ x, p j x) → ∃ xs : List α, xs.length = n ∧ ∀ j x, xs[j]? = some x → p j x
  | 0, _ => ⟨[], rfl, by simp⟩
  | n + 1, h => by
    obtain ⟨xs, hl, hx⟩ := list_choose n fun j hj => h j (by omega)
    obtain ⟨x, hp⟩ := h n (by omega)
    refine ⟨xs ++ [x], by simp [hl], fun j y hj => ?_⟩
    rcases Nat.lt_or_ge j xs.length with hlt | hge
    · rw [List.getElem?_append_left hlt] at hj; exact hx j y hj
    · rw [List.getElem?_append_right hge] at hj
      have : j - xs.length = 0 := by
        rcases Nat.eq_zero_or_pos (j - xs.length) with h0 | h0
        · exact h0
        · rw [List.getElem?_eq_none (by simp; omega)] at hj; cases hj
      rw [this] at hj
      simp at hj; subst hj
      obtain rfl : j = n := by omega
      exact hp
theorem flat_inv {α : Type} {f : α → List V} {k : Nat} (hk : 0 < k) : ∀ {l : List α} {J : Nat} {u : V}, (∀ a ∈ l, (f a).length = k) → (l.flatMap f)[J]? = some u → ∃ a, l[J / k]? = some a ∧ (f a)[J % k]? = some u
  | [], J, u, _, h => by simp at h
  | a :: l, J, u, hf, h => by
    rw [List.flatMap_cons] at h
    have ha := hf a (by simp)
    rcases Nat.lt_or_ge J k with hlt | hge
    · rw [List.getElem?_append_left (by omega)] at h
      exact ⟨a, by rw [Nat.div_eq_of_lt hlt]; rfl, by rw [Nat.mod_eq_of_lt hlt]; exact h⟩
    · rw [List.getElem?_append_right (by omega), ha] at h
      obtain ⟨b, h1, h2⟩ := flat_inv hk (fun a ha => hf a (by simp [ha])) h
      obtain ⟨J', rfl⟩ : ∃ J', J = J' + k := ⟨J - k, by omega⟩
      rw [Nat.add_sub_cancel] at h1 h2
      exact ⟨b, by rw [Nat.add_div_right _ hk]; exact h1, by rw [Nat.add_mod_right]; exact h2⟩
theorem sum_le {α β : Type} {f : α → Nat} {g : β → Nat} : ∀ {l : List α} {m : List β}, l.length = m.length → (∀ (j : Nat) a b, l[j]? = some a → m[j]? = some b → f a ≤ g b) → (l.map f).sum ≤ (m.map g).sum
  | [], [], _, _ => Nat.le_refl _
  | a :: l, b :: m, hl, h => by
    simp only [List.map_cons, List.sum_cons]
    exact Nat.add_le_add (h 0 a b rfl rfl) (sum_le (by simpa using hl) fun j x y hx hy => h (j + 1) x y (by simpa using hx) (by simpa using hy))
  | [], _ :: _, hl, _ => by simp at hl
  | _ :: _, [], hl, _ => by simp at hl
section
variable {H : Type} {enc : TypeId × Value → H} {P : Program} {W : World}
theorem sum_bulk (xs : List (DataW H × List MemPlace)) : (xs.map fun x => Rows.uptoBulk x.1).sum = Rows.uptoBulkAll (xs.map (·.1)) := by
  induction xs with
  | nil => simp [Rows.uptoBulkAll]
  | cons x r ih => simp [Rows.uptoBulkAll, ih]
structure Opn (enc : TypeId × Value → H) (P : Program) (W : World) (n T : Nat) {α : Type} (f : α → List V) (ok : α → Prop) (sz : α → Nat) : Prop where
  go : ∀ cs x, DataW.trod enc P W 0 (fun _ => true) true n T cs = some x → ∃ a, RO W (f a) cs ∧ ok a ∧ sz a ≤ Rows.uptoBulk x.1
theorem Opn.zero {T : Nat} {α : Type} {f : α → List V} {ok : α → Prop} {sz : α → Nat} : Opn enc P W 0 T f ok sz := ⟨fun cs x h => by simp [DataW.trod] at h⟩
theorem Opn.map {n T : Nat} {α β : Type} {f : α → List V} {ok : α → Prop} {sz : α → Nat} {f' : β → List V} {ok' : β → Prop} {sz' : β → Nat} (g : α → β) (h : Opn enc P W n T f ok sz) (hf : ∀ a, ok a → f' (g a) = f a) (hok : ∀ a, ok a → ok' (g a)) (hs : ∀ a, ok a → sz' (g a) ≤ sz a) : Opn enc P W n T f' ok' sz' :=
  ⟨fun cs x hx => by
    obtain ⟨a, h1, h2, h3⟩ := h.go cs x hx
    exact ⟨g a, by rw [hf a h2]; exact h1, hok a h2, Nat.le_trans (hs a h2) h3⟩⟩
theorem Opn.bool {n T : Nat} (hT : P.underlying T = some .bool) : Opn enc P W n T (fun b : Bool => [.k (.bool b)]) (fun _ => True) (fun _ => 1) := ⟨fun cs x h => by
  cases n with
  | zero => simp [DataW.trod] at h
  | succ n =>
    unfold DataW.trod at h
    rw [hT] at h
    split at h <;> rename_i hu <;> first | (cases hu; done) | skip
    all_goals first | (cases h; exact ⟨_, ⟨⟨rfl, .k _⟩, trivial⟩, trivial, by simp [Rows.uptoBulk]⟩) | cases h⟩
theorem Opn.int {n T : Nat} {k : IntKind} (hT : P.underlying T = some (.int k)) : Opn enc P W n T (fun z : Int => [.k (.int k z)]) (fun z => k.min ≤ z ∧ z ≤ k.max) (fun _ => 1) := ⟨fun cs x h => by
  cases n with
  | zero => simp [DataW.trod] at h
  | succ n =>
    unfold DataW.trod at h
    rw [hT] at h
    split at h <;> rename_i hu <;> first | (cases hu; done) | skip
    all_goals first | cases h | skip
    cases hu
    split at h
    · rename_i hw
      cases h
      obtain ⟨rfl, hw⟩ := hw
      exact ⟨_, ⟨⟨rfl, .k _⟩, trivial⟩, by simpa [Lit.wf] using hw, by simp [Rows.uptoBulk]⟩
    · cases h⟩
theorem Opn.str {n T : Nat} (hT : P.underlying T = some .string) : Opn enc P W n T (fun s : ByteArray => [.k (.string s)]) (fun s => s.size ≤ maxLen) (fun s => s.size + 1) := ⟨fun cs x h => by
  cases n with
  | zero => simp [DataW.trod] at h
  | succ n =>
    unfold DataW.trod at h
    rw [hT] at h
    split at h <;> rename_i hu <;> first | (cases hu; done) | skip
    all_goals first | cases h | skip
    split at h
    · rename_i hw
      cases h
      exact ⟨_, ⟨⟨rfl, .k _⟩, trivial⟩, hw, by simp [Rows.uptoBulk]⟩
    · cases h⟩
theorem Opn.sl {n T e k : Nat} {α : Type} {f : α → List V} {ok : α → Prop} {sz : α → Nat} (p : α → V) (hT : P.underlying T = some (.slice e)) (hc : P.cellsOf e = k) (hk : 0 < k) (hp : ∀ a, (p a).cells = f a) (h : Opn enc P W (n - 1) e f ok sz) :
    Opn enc P W n T (fun l : List α => [.s none (l.map p)]) (fun l => ∀ a ∈ l, ok a) (fun l => (l.map sz).sum + 1) := ⟨fun cs x hx => by
  cases n with
  | zero => simp [DataW.trod] at hx
  | succ n =>
    unfold DataW.trod at hx
    rw [hT] at hx
    split at hx <;> rename_i hu <;> first | (cases hu; done) | skip
    all_goals first | (cases hx; exact ⟨[], ⟨⟨rfl, .s0 (fun _ h => by cases h)⟩, trivial⟩, by simp, by simp [Rows.uptoBulk]⟩) | skip
    all_goals first | cases hx | skip
    cases hu
    rename_i a len cap
    simp only [hc] at hx
    split at hx
    · rename_i hb
      obtain ⟨_, hlc, hcm⟩ := hb
      obtain ⟨elems, he, hx⟩ := Option.bind_eq_some_iff.1 hx
      obtain ⟨rest, hr, hx⟩ := Option.map_eq_some_iff.1 hx
      subst hx
      obtain ⟨e1, e2⟩ := mapM_some he
      rw [List.length_range] at e1
      have key : ∀ j, j < len → ∃ y : α, (∃ b, elems[j]? = some b ∧ ok y ∧ sz y ≤ Rows.uptoBulk b.1) ∧ (f y).length = k ∧ ∀ i, i < k → ∃ u c, (f y)[i]? = some u ∧ W.cell? ((a.add (j * k)).add i) = some c ∧ u.one = true ∧ Rep W allS u c := fun j hj => by
        obtain ⟨b, h1, h2⟩ := e2 j j (by rw [List.getElem?_range hj])
        obtain ⟨ds, h3, h4⟩ := Option.bind_eq_some_iff.1 h2
        obtain ⟨y, k1, k2, k3⟩ := h.go ds b h4
        unfold World.cells? at h3
        split at h3
        · obtain ⟨m1, m2⟩ := mapM_some h3
          rw [List.length_range] at m1
          obtain ⟨l1, l2⟩ := k1.spec
          refine ⟨y, ⟨b, h1, k2, k3⟩, by omega, fun i hi => ?_⟩
          obtain ⟨c, c1, c2⟩ := m2 i i (by rw [List.getElem?_range hi])
          have hu : (f y)[i]? = some (f y)[i] := List.getElem?_eq_getElem (by omega)
          exact ⟨_, c, hu, c2, l2 i _ c hu c1⟩
        · cases h3
      obtain ⟨ys, hyl, hys⟩ := list_choose len key
      have hspot : 0 < cap → a.spot = none := fun h0 => by
        have : ∃ v : DataW H × List MemPlace, ((W.cells? 0 (a.add (0 * k)) k).bind (DataW.trod enc P W 0 (fun _ => true) true n e)) = some v := by
          rcases Nat.eq_zero_or_pos len with hl | hl
          · subst hl
            simp only [if_true] at hr
            obtain ⟨_, r2⟩ := mapM_some hr
            obtain ⟨v, _, hv⟩ := r2 0 0 (by rw [List.getElem?_range (by omega)])
            exact ⟨v, by simpa using hv⟩
          · obtain ⟨v, _, hv⟩ := e2 0 0 (by rw [List.getElem?_range hl])
            exact ⟨v, hv⟩
        obtain ⟨v, hv⟩ := this
        obtain ⟨ds, h3, _⟩ := Option.bind_eq_some_iff.1 hv
        unfold World.cells? at h3
        split at h3
        · obtain ⟨_, m2⟩ := mapM_some h3
          obtain ⟨c, _, c2⟩ := m2 0 0 (by rw [List.getElem?_range hk])
          obtain ⟨b, o, s⟩ := a
          cases s with
          | none => rfl
          | some s =>
            exfalso
            simp only [Addr.add, Nat.zero_mul] at c2
            simp [World.cell?] at c2
            split at c2 <;> simp at c2
        · cases h3
      refine ⟨ys, ⟨⟨rfl, ?_⟩, trivial⟩, fun y hy => ?_, ?_⟩
      · rcases Nat.eq_zero_or_pos cap with h0 | h0
        · obtain rfl : len = 0 := by omega
          subst h0
          have : ys = [] := List.eq_nil_of_length_eq_zero hyl
          subst this
          exact .se a (fun _ h => by cases h)
        · have hsp := hspot h0
          obtain ⟨b, o, s⟩ := a
          simp only at hsp
          subst hsp
          have hfl : ∀ y ∈ ys, (f y).length = k := fun y hy => by
            obtain ⟨j, hj⟩ := List.getElem?_of_mem hy
            exact (hys j y hj).2.1
          have hfe : (ys.map p).flatMap V.cells = ys.flatMap f := by
            rw [List.flatMap_map]
            congr 1
            funext y; exact hp y
          have hat : ∀ (J : Nat) u, (ys.flatMap f)[J]? = some u → ∃ c, W.cell? ⟨b, o + J, none⟩ = some c ∧ u.one = true ∧ Rep W allS u c := fun J u hu => by
            obtain ⟨y, h1, h2⟩ := flat_inv hk hfl hu
            obtain ⟨_, _, h3⟩ := hys _ y h1
            obtain ⟨u', c, k1, k2, k3⟩ := h3 (J % k) (Nat.mod_lt _ hk)
            rw [k1] at h2; cases h2
            rw [Addr.add_lit, Addr.add_lit, Nat.add_assoc, Nat.mul_comm, Nat.div_add_mod] at k2
            exact ⟨c, k2, k3⟩
          have hlen : (ys.map p).length = len := by simpa using hyl
          rw [← hlen]
          refine .s (size := k) (fun J => (W.cell? ⟨b, o + J, none⟩).getD undef) (by omega) hcm hk (fun v hv => ?_) (fun J u hu => ?_) (fun J u hu => ?_) (fun _ h => by cases h)
          · obtain ⟨y, hy, rfl⟩ := List.mem_map.1 hv
            rw [hp]
            refine ⟨hfl y hy, fun u hu => ?_⟩
            obtain ⟨J, hJ⟩ := List.getElem?_of_mem (List.mem_flatMap.2 ⟨y, hy, hu⟩)
            obtain ⟨_, _, h1, _⟩ := hat J u hJ
            exact h1
          · rw [hfe] at hu
            obtain ⟨c, h1, _⟩ := hat J u hu
            exact ⟨World.block_lt_of_cell? W ⟨b, o + J, none⟩ (by rw [h1]), trivial, by rw [h1]; rfl⟩
          · rw [hfe] at hu
            obtain ⟨c, h1, _, h2⟩ := hat J u hu
            rw [h1]
            exact h2
      · obtain ⟨j, hj⟩ := List.getElem?_of_mem hy
        obtain ⟨⟨b, _, h1, _⟩, _⟩ := hys j y hj
        exact h1
      · have := sum_le (f := sz) (g := fun x : DataW H × List MemPlace => Rows.uptoBulk x.1) (l := ys) (m := elems) (by omega) fun j y b hy hb => by
          obtain ⟨⟨b', hb', _, h1⟩, _⟩ := hys j y hy
          rw [hb] at hb'; cases hb'
          exact h1
        rw [sum_bulk] at this
        simp only [Rows.uptoBulk]
        omega
    · cases hx⟩
def tileB (P : Program) (total : Nat) : Nat → List Field → Bool
  | off, [] => Nat.beq off total
  | off, f :: r => Nat.beq f.offset off && tileB P total (off + P.cellsOf f.type) r
structure OpnFs (enc : TypeId × Value → H) (P : Program) (W : World) (n : Nat) (fs : List Field) {α : Type} (f : α → List V) (ok : α → Prop) (sz : α → Nat) : Prop where
  go : ∀ (total off : Nat) (cs : List Value) (xs : List (DataW H × List MemPlace)), tileB P total off fs = true → cs.length = total → (fs.mapM fun fl => DataW.trod enc P W 0 (fun _ => true) true n fl.type ((cs.drop fl.offset).take (P.cellsOf fl.type))) = some xs → ∃ a, RO W (f a) (cs.drop off) ∧ ok a ∧ sz a ≤ Rows.uptoBulkAll (xs.map (·.1))
theorem OpnFs.nil {n : Nat} : OpnFs enc P W n [] (fun _ : Unit => []) (fun _ => True) (fun _ => 0) := ⟨fun total off cs xs ht hl hx => by
  have : off = total := Nat.eq_of_beq_eq_true ht
  refine ⟨(), ?_, trivial, Nat.zero_le _⟩
  rw [List.drop_of_length_le (by omega)]
  trivial⟩
theorem OpnFs.cons {n : Nat} {fl : Field} {fs : List Field} {α β : Type} {f : α → List V} {ok : α → Prop} {sz : α → Nat} {f' : β → List V} {ok' : β → Prop} {sz' : β → Nat} (h : Opn enc P W n fl.type f ok sz) (k : OpnFs enc P W n fs f' ok' sz') :
    OpnFs enc P W n (fl :: fs) (fun x : α × β => f x.1 ++ f' x.2) (fun x => ok x.1 ∧ ok' x.2) (fun x => sz x.1 + sz' x.2) := ⟨fun total off cs xs ht hl hx => by
  simp only [tileB, Bool.and_eq_true] at ht
  have ho : fl.offset = off := Nat.eq_of_beq_eq_true ht.1
  simp only [List.mapM_cons, Option.bind_eq_bind, Option.pure_def] at hx
  obtain ⟨b, hb, hx⟩ := Option.bind_eq_some_iff.1 hx
  obtain ⟨bs, hbs, hx⟩ := Option.bind_eq_some_iff.1 hx
  cases hx
  obtain ⟨a, a1, a2, a3⟩ := h.go _ _ hb
  obtain ⟨c, c1, c2, c3⟩ := k.go _ _ _ _ ht.2 hl hbs
  refine ⟨(a, c), ?_, ⟨a2, c2⟩, by simp only [List.map_cons, Rows.uptoBulkAll]; omega⟩
  have := a1.append c1
  rw [ho, ← List.drop_drop, List.take_append_drop] at this
  exact this⟩
theorem Opn.st {n T : Nat} {fs : Array Field} {α : Type} {f : α → List V} {ok : α → Prop} {sz : α → Nat} (hT : P.underlying T = some (.struct fs)) (ht : tileB P (P.cellsOf T) 0 fs.toList = true) (h : OpnFs enc P W (n - 1) fs.toList f ok sz) :
    Opn enc P W n T f ok (fun a => sz a + 1) := ⟨fun cs x hx => by
  cases n with
  | zero => simp [DataW.trod] at hx
  | succ n =>
    have hx : (if cs.length = P.cellsOf T then (fs.toList.mapM fun fl => DataW.trod enc P W 0 (fun _ => true) true n fl.type ((cs.drop fl.offset).take (P.cellsOf fl.type))).map fun xs => (DataW.agg (xs.map (·.1)), xs.flatMap (·.2)) else none) = some x := by
      unfold DataW.trod at hx
      rw [hT] at hx
      exact hx
    split at hx
    · rename_i hl
      obtain ⟨xs, hxs, hx⟩ := Option.map_eq_some_iff.1 hx
      subst hx
      obtain ⟨a, h1, h2, h3⟩ := h.go _ _ _ _ ht hl hxs
      rw [List.drop_zero] at h1
      exact ⟨a, h1, h2, by simp only [Rows.uptoBulk]; omega⟩
    · cases hx⟩
theorem ro_one {u : V} {cs : List Value} (h : RO W [u] cs) : ∃ c, cs = [c] ∧ Rep W allS u c := by
  match cs, h with
  | [c], h => exact ⟨c, rfl, h.1.2⟩
theorem Opn.arg1 {T base : Nat} {α : Type} {p : α → V} {ok : α → Prop} {sz : α → Nat} {v : Value} {d : DataW H} {ps : List MemPlace} (h : ∀ n, Opn enc P W n T (fun a => [p a]) ok sz) (ha : (match P.underlying T with | some .bool | some (.int _) | some .string | some (.slice _) => true | _ => false) = true) (hv : Value.okWide P W .any base T v) (ht : DataW.Trod enc P W 0 (fun _ => true) true T v d ps) :
    ∃ a, Rep W allS (p a) v ∧ ok a ∧ sz a ≤ Rows.uptoBulk d := by
  obtain ⟨n, hn⟩ := ht
  obtain ⟨a, h1, h2, h3⟩ := (h n).go _ _ hn
  have hc : v.cells = #[v] := by
    split at ha
    · rename_i hu; obtain ⟨b, rfl⟩ := okWide_bool hu hv; rfl
    · rename_i k hu; obtain ⟨b, rfl⟩ := okWide_int hu hv; rfl
    · rename_i hu; obtain ⟨b, rfl⟩ := okWide_string hu hv; rfl
    · rename_i e hu; obtain ⟨x, y, z, rfl⟩ := okWide_slice hu hv; rfl
    · cases ha
  rw [hc] at h1
  obtain ⟨c, hc', hr⟩ := ro_one h1
  simp at hc'
  subst hc'
  exact ⟨a, hr, h2, h3⟩
theorem Opn.u8 {n T : Nat} (hT : P.underlying T = some (.int .u8)) : Opn enc P W n T (fun b : UInt8 => [bK b]) (fun _ => True) (fun _ => 1) :=
  (Opn.int hT).map (fun z => UInt8.ofNat z.toNat) (fun z hz => by
    have h0 : IntKind.u8.min = 0 := rfl
    have h1 : IntKind.u8.max = 255 := rfl
    have e : (UInt8.ofNat z.toNat).toNat = z.toNat := UInt8.toNat_ofNat_of_lt (by show _ < 256; omega)
    have : ((z.toNat : Nat) : Int) = z := by omega
    simp only [bK, e, this]) (fun _ _ => trivial) fun _ _ => Nat.le_refl _
theorem Opn.u64 {n T : Nat} (hT : P.underlying T = some (.int .u64)) : Opn enc P W n T (fun b : UInt64 => [qK b]) (fun _ => True) (fun _ => 1) :=
  (Opn.int hT).map (fun z => UInt64.ofNat z.toNat) (fun z hz => by
    have h0 : IntKind.u64.min = 0 := rfl
    have h1 : IntKind.u64.max = 18446744073709551615 := rfl
    have e : (UInt64.ofNat z.toNat).toNat = z.toNat := UInt64.toNat_ofNat_of_lt (by show _ < 18446744073709551616; omega)
    have : ((z.toNat : Nat) : Int) = z := by omega
    simp only [qK, e, this]) (fun _ _ => trivial) fun _ _ => Nat.le_refl _
theorem Opn.i64 {n T : Nat} (hT : P.underlying T = some (.int .i64)) : Opn enc P W n T (fun z : Int => [.k (.int .i64 z)]) (fun z => -9223372036854775808 ≤ z ∧ z ≤ 9223372036854775807) (fun _ => 1) :=
  (Opn.int hT).map id (fun _ _ => rfl) (fun _ hz => hz) fun _ _ => Nat.le_refl _
theorem sum_map_one {α : Type} (l : List α) : (l.map fun _ => 1).sum = l.length := by induction l with
  | nil => rfl
  | cons a l ih => simp [ih]; omega
theorem Opn.bytes {n T e : Nat} (hT : P.underlying T = some (.slice e)) (hE : P.underlying e = some (.int .u8)) (hc : P.cellsOf e = 1) : Opn enc P W n T (fun l : List UInt8 => [.s none (l.map bK)]) (fun _ => True) (fun l => l.length + 1) :=
  (Opn.sl bK hT hc (by decide) (fun _ => rfl) (Opn.u8 hE)).map id (fun _ _ => rfl) (fun _ _ => trivial) fun l _ => by rw [sum_map_one]; exact Nat.le_refl _
end
end Lf
end Go.Proofs.Ytkbimhccaacobaa

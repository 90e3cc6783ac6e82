/- A part of the proof: texts joined. -/
import Derived.Test.YtgjoecocahpfhaaQ7b5919b
namespace Go.Proofs.Ytgjoecocahpfhaa
open Go.RowKit Rg Rp
set_option linter.unusedVariables false
set_option maxRecDepth 100000
namespace Lf
namespace Jw
open Jn
theorem fin_mono {X : TOk Try.prog} {rs : List ResultVar} {R R' : Out → Mem → Prop} {env : Env} {mem : Mem} (h : ∀ o m, R o m → R' o m) : LFin X rs R env mem → LFin X rs R' env mem := fun ⟨v, v', mo, a, b, c⟩ => ⟨v, v', mo, a, b, h _ _ c⟩
abbrev msI (ss : List Nat) : Mem := [(1009, .b [.w 1090 ss.length 1 0 ss.length]), (1090, .w 24 1 ss.length (ss.map uK))]
abbrev memI (l : KV) (ss : List Nat) : Mem := (1006, .b [.mp 1001]) :: (1001, .d (nowE l) none) :: msI ss
abbrev StI := List Nat × Option (List Nat × Nat)
abbrev memS (l : KV) (s : StI) : Mem := (1006, .b [.mp 1001]) :: (1001, .d (nowE l) s.2) :: msI s.1
def okI (ss : List Nat) (x : Nat) : Prop := ss.length < 500000000 ∧ x < B64
structure Js (n : Nat) (js : List Nat) : Prop where
  nd : js.Nodup
  lt : ∀ j ∈ js, j < n
theorem nd_len : ∀ {n : Nat} {l : List Nat}, l.Nodup → (∀ x ∈ l, x < n) → l.length ≤ n
  | 0, [], _, _ => Nat.le_refl _
  | 0, x :: _, _, h => absurd (h x List.mem_cons_self) (Nat.not_lt_zero _)
  | n + 1, l, hn, h => by
    have h1 := nd_len (n := n) (l := l.erase n) (hn.erase n) fun x hx => by
      have h2 := (hn.mem_erase_iff).1 hx
      have := h x h2.2
      have := h2.1
      omega
    rw [List.length_erase] at h1
    split at h1 <;> omega
theorem Js.len {n : Nat} {js : List Nat} (h : Js n js) : js.length ≤ n := nd_len h.nd h.lt
theorem Js.snoc {n : Nat} {js : List Nat} (h : Js n js) {j : Nat} (hj : j < n) (hn : j ∉ js) : Js n (js ++ [j]) := ⟨by
  rw [List.nodup_append]
  exact ⟨h.nd, by simp, fun a ha b hb => by rw [List.mem_singleton.1 hb]; rintro rfl; exact hn ha⟩, fun i hi => by
  rcases List.mem_append.1 hi with hi | hi
  · exact h.lt i hi
  · rw [List.mem_singleton.1 hi]; exact hj⟩
theorem Js.all {n : Nat} {js : List Nat} (h : Js n js) (ha : ∀ j, j < n → j ∈ js) : js.Perm (List.range n) := perm_of h.nd List.nodup_range fun x => ⟨fun hx => List.mem_range.2 (h.lt x hx), fun hx => ha x (List.mem_range.1 hx)⟩
theorem map_range {l : List Nat} : (List.range l.length).map (fun j => l.getD j 0) = l := by
  refine List.ext_getElem (by simp) fun i h1 h2 => ?_
  simp [List.getD_eq_getElem?_getD, h2]
theorem getD_nd {bs : List Nat} (h : bs.Nodup) {i j : Nat} (hi : i < bs.length) (hj : j < bs.length) (e : bs.getD i 0 = bs.getD j 0) : i = j := by
  rw [List.getD_eq_getElem?_getD, List.getD_eq_getElem?_getD, List.getElem?_eq_getElem hi, List.getElem?_eq_getElem hj] at e
  exact (List.getElem_inj h).1 e
set_option maxHeartbeats 8000000 in
theorem keys_it (l : KV) (hn : ND l) (hb : ∀ p ∈ l, p.1 < B64 ∧ p.2 < B64) (hl : l.length < 500000000) (lo : LoF) :
    LI Try.prog 85 [.y 1999, .p 1006 0] ((1999, .o (lo .ready none)) :: memI l [])
      (fun g w => ∀ (s : StI) x, okI s.1 x → LY Try.prog g w 1999 [uK x] ((1999, .o (lo .ready none)) :: memS l s) fun q m => q = .ret (.k (.bool true)) ∧ m = (1999, .o (lo .ready none)) :: memS l (s.1 ++ [x], s.2))
      fun q m => q = .ret (.t []) ∧ ∃ ss, ss.Perm (keys l) ∧ m = (1999, .o (lo .ready none)) :: memI l ss := by
  refine LI.enter tt Try.func85 rfl rfl rfl (by kernel_rfl) rfl rfl rfl (fun o mo ⟨_, ss, _, h⟩ => by rw [h]; rfl) fun F hD hY hkF => ?_
  have hu : Try.prog.underlying 120 = some (.map 24 24) := by kernel_rfl
  have hkl : (keys l).length = l.length := List.length_map _
  have hel := nowE_len l
  refine LC.stamps (m := 1001) rfl fun bs k hbl hbn hbk => ?_
  refine LC.seq (LC.region (LS.ld tt rfl rfl rfl rfl rfl rfl rfl rfl ?_))
  refine LS.step rfl (Does.rangeD (m := 1001) (i := 5) (bs := bs) (c := k) hu rfl rfl) (tpre_two rfl rfl) rfl (LS.nil ?_)
  show LC _ _ _ _ _ _ _
  refine LC.block ?_
  refine LC.loop5 (fun i js (_u2 : Unit) (_u3 : Unit) (_u4 : Unit) => [(0, .y 1999), (1, .p 1006 0), (5, .p 5 0)]) (fun i js (_u2 : Unit) (_u3 : Unit) (_u4 : Unit) => [(5, .it 1001 k (js.map fun j => bs.getD j 0)), (1999, .o (lo .ready none)), (1006, .b [.mp 1001]), (1001, .d (nowE l) (some (bs, k))), (1009, .b [.w 1090 (js.map fun j => (keys l).getD j 0).length 1 0 (js.map fun j => (keys l).getD j 0).length]), (1090, .w 24 1 (js.map fun j => (keys l).getD j 0).length ((js.map fun j => (keys l).getD j 0).map uK))]) (fun i js (_u2 : Unit) (_u3 : Unit) (_u4 : Unit) => i = js.length ∧ Js l.length js) ((l.length - ·)) (0) ([]) () () () ⟨rfl, ⟨.nil, fun j hj => (List.not_mem_nil hj).elim⟩⟩ ⟨rfl, rfl, rfl, trivial⟩ ⟨rfl, rfl, rfl, rfl, rfl, rfl, trivial⟩ rfl rfW rfW ?_
  rintro i js _ _ _ ⟨hi, hJ⟩
  have hJl := hJ.len
  refine LC.seq (LC.region (LS.nextD rfl rfl rfl rfl rfl rfl rfl (fun hall => ?_) fun j b kk v hj hbj hnj => ?_))
  · refine LS.pp rfl rfl (Does.extract rfl rfl rfl) rfl (LS.nil ?_)
    show LC _ _ _ _ _ _ _
    refine LC.unstamp (m := 1001) rfl ?_
    have hp : js.Perm (List.range (keys l).length) := by
      rw [hkl]
      refine hJ.all fun j hj => ?_
      have hjb : j < bs.length := by omega
      obtain ⟨j', hj', e⟩ := List.mem_map.1 (hall (bs.getD j 0) (by rw [List.getD_eq_getElem?_getD, List.getElem?_eq_getElem hjb]; exact List.getElem_mem _))
      rw [← getD_nd hbn (by have := hJ.lt j' hj'; omega) hjb e]
      exact hj'
    have hpk : (js.map fun j => (keys l).getD j 0).Perm (keys l) := by
      have := hp.map fun j => (keys l).getD j 0
      rwa [map_range] at this
    generalize (js.map fun j => (keys l).getD j 0) = ss at *
    refine wk ?_ trueW trueW
    unfold LRet
    refine fin_mono (R := fun o m => o = .ret (.t []) ∧ m = (1999, .o (lo .ready none)) :: memI l ss) (fun o m h => ⟨h.1, ss, hpk, h.2⟩) ?_
    refine LFin.memV (u := .t []) rfl (by repeat (first | exact True.intro | refine And.intro rfl ?_)) rfl rfl
  · obtain ⟨hjl, hje⟩ := List.getElem?_eq_some_iff.1 hj
    have hjl2 : j < l.length := by omega
    have hkj : kk = kU ((keys l).getD j 0) ∧ (keys l).getD j 0 < B64 := by
      have e1 : (nowE l)[j]? = some (kU (l[j]).1, uK (l[j]).2) := by unfold nowE; rw [List.getElem?_map, List.getElem?_eq_getElem hjl2]; rfl
      rw [e1] at hj
      have e2 : (keys l).getD j 0 = (l[j]).1 := by unfold keys; rw [List.getD_eq_getElem?_getD, List.getElem?_map, List.getElem?_eq_getElem hjl2]; rfl
      rw [e2]
      exact ⟨(Prod.mk.inj (Option.some.inj hj)).1.symm, (hb _ (List.getElem_mem hjl2)).1⟩
    obtain ⟨rfl, hkb⟩ := hkj
    have hbj' : bs.getD j 0 = b := by rw [List.getD_eq_getElem?_getD, hbj]; rfl
    have hnj' : j ∉ js := fun h => hnj (List.mem_map.2 ⟨j, h, hbj'⟩)
    have hok : i + 1 = (js ++ [j]).length ∧ Js l.length (js ++ [j]) := ⟨by rw [List.length_append, hi]; rfl, hJ.snoc hjl2 hnj'⟩
    have hlt := hok.2.len
    have hmu : l.length - (i + 1) < l.length - i := by rw [← hok.1] at hlt; omega
    have hYx := hY (js.map fun j => (keys l).getD j 0, some (bs, k)) ((keys l).getD j 0) ⟨by rw [List.length_map]; omega, hkb⟩
    have e1 : (js.map fun j => bs.getD j 0) ++ [b] = (js ++ [j]).map fun j => bs.getD j 0 := by rw [List.map_append, ← hbj']; rfl
    have e2 : (js.map fun j => (keys l).getD j 0) ++ [(keys l).getD j 0] = (js ++ [j]).map fun j => (keys l).getD j 0 := by rw [List.map_append]; rfl
    dsimp only at hYx
    rw [e2] at hYx
    refine LS.pp rfl rfl (Does.extract rfl rfl rfl) rfl (LS.nil ?_)
    show LC _ _ _ _ _ _ _
    refine LC.seq (LC.condT rfl (LC.skip ?_))
    show LC _ _ _ _ _ _ _
    refine LC.block (LC.seq (LC.region (LS.entryD (j := j) rfl rfl rfl rfl rfl rfl hj hbj rfl ?_)))
    refine LS.pp rfl rfl (Does.extract rfl rfl rfl) rfl (LS.pp rfl rfl (Does.assign rfl rfl) rfl (LS.nil ?_))
    show LC _ _ _ _ _ _ _
    rw [e1]
    clear hY hnj hnj' e1 e2 hi
    generalize js ++ [j] = js' at *
    refine LC.seq (LC.region (LS.pp rfl rfl (Does.move rfl rfl) rfl (LS.pp rfl rfl (Does.move rfl rfl) rfl (Rj.yield_ hYx rfl rfl rfl rfl rfl (Fits.same _) rfl rfl (fun i hi => hkF i (Rj.aget_keys (l := (1999, .o (lo .ready none)) :: memS l (js.map fun j => (keys l).getD j 0, some (bs, k))) rfl hi)) (by repeat (first | exact True.intro | refine And.intro rfl ?_)) rfl ?_))))
    refine LS.pp rfl rfl (Does.not rfl rfl) rfl (LS.nil ?_)
    exact wk trueW trueW trueW
end Jw
end Lf
open Go.RowKit Rg Rp
set_option linter.unusedVariables false
set_option maxRecDepth 100000
namespace Lf
namespace Jw
open Jn
theorem aget_mapren (ρ : Nat → Nat) : ∀ (l : Env) {t : Nat} {v : V}, aget l t = some v → aget (l.map fun x => (x.1, x.2.ren ρ)) t = some (v.ren ρ)
  | [], _, _, h => by cases h
  | (a, x) :: l, t, v, h => by
    rw [List.map_cons, aget_cons]
    rw [aget_cons] at h
    split at h
    · rename_i e; rw [if_pos e]; cases h; rfl
    · rename_i e; rw [if_neg e]; exact aget_mapren ρ l h
abbrev fIt : V := .f (.func 85) [] [.p 1006 0]
abbrev mIt (l : KV) : Mem := [(1006, .b [.mp 1001]), (1001, .d (nowE l) none)]
abbrev mOut (l : KV) (ss : List Nat) : Mem := [(1006, .b [.mp 1001]), (1001, .d (nowE l) none), (1090, .w 24 1 ss.length (ss.map uK))]
set_option maxHeartbeats 8000000 in
theorem appSeq (l : KV) (hn : ND l) (hb : ∀ p ∈ l, p.1 < B64 ∧ p.2 < B64) (hl : l.length < 500000000) : LM Try.prog 90 [.nil, fIt] (mIt l) fun o m => ∃ ss : List Nat, ss.Perm (keys l) ∧ o = .ret (.w 1090 ss.length 1 0 ss.length) ∧ m = mOut l ss := by
  have hit := keys_it l hn hb hl
  refine Rj.enterR_ tt Try.func90 rfl rfl rfl (by kernel_rfl) rfl rfl rfl (fun o mo ⟨ss, _, _, h⟩ => by rw [h]; rfl) fun F hD hro hlm hkF => ?_
  refine wk ?_ trueW trueW
  refine LC.weak (env' := [(6, fIt), (2, .p 2 0)]) (mem' := [(1006, .b [.mp 1001]), (1001, .d (nowE l) none), (2, .b [.nil])]) ⟨by repeat (first | exact True.intro | refine And.intro rfl ?_), by repeat (first | exact True.intro | refine And.intro rfl ?_), rfl⟩ ?_
  refine LC.nilbuf 2 0 1090 24 1 rfl rfl rfl (by decide) rfl ?_
  refine LC.weak (env' := [(6, fIt), (2, .p 2 0)]) (mem' := [(1006, .b [.mp 1001]), (1001, .d (nowE l) none), (2, .b [.w 1090 0 1 0 0]), (1090, .w 24 1 0 [])]) ⟨by repeat (first | exact True.intro | refine And.intro rfl ?_), by repeat (first | exact True.intro | refine And.intro rfl ?_), rfl⟩ ?_
  refine Rj.ren_ (env' := [(6, fIt), (2, .p 1009 0)]) (mem' := [(1006, .b [.mp 1001]), (1001, .d (nowE l) none), (1009, .b [.w 1090 0 1 0 0]), (1090, .w 24 1 0 [])]) [1009] [2] (by decide) (by decide) rfl (fun i hi => hkF i ?_) (fun ρ hρ hfix => ?_) ?_
  · have h2 : i = 1009 ∨ i = 2 := by simpa using hi
    rcases h2 with rfl | rfl <;> rfl
  · simp only [List.map_cons, List.map_nil, List.cons.injEq, and_true] at hρ
    have f1 := hfix 1006 (by decide) (by decide)
    have f2 := hfix 1001 (by decide) (by decide)
    have f3 := hfix 1090 (by decide) (by decide)
    refine ⟨?_, fun t v hv => ?_⟩
    · simp only [Mem.ren, List.map_cons, List.map_nil, M.ren, V.ren, V.ren.go, hρ, f1, f2, f3]
    · have h3 := aget_mapren ρ.f _ hv
      simp only [List.map_cons, List.map_nil, V.ren, V.ren.go, hρ, f1] at h3
      exact h3
  refine LC.rangeE (Fin := fun ss : List Nat => ss.Perm (keys l)) (m1 := fun ss => memI l ss) (y := 1999) (id := 0) (fun (s : StI) x => okI s.1 x) uK (memS l) (fun _ _ => true) (fun s x => (s.1 ++ [x], s.2)) hlm hro rfl rfl rfl rfl (fun ob => rfl) (fun s => rfl) (fun s x _ ob ob' => rfl) (fun lo FR _ s x hok => ?_) (fun lo => hit lo) (fun _ _ _ _ => rfl) (fun _ _ => rfl) (fun ss hss => ?_)
  · obtain ⟨hsl, hx⟩ := hok
    have hul : (s.1.map uK).length = s.1.length := List.length_map _
    have hzs : ∀ e ∈ s.1.map uK, e.cells.length = 1 := fun e he => by
      obtain ⟨y, _, rfl⟩ := List.mem_map.1 he
      rfl
    have hz : s.1.map uK ++ [V.k (.int .u64 ((x : Nat) : Int))] = (s.1 ++ [x]).map uK := by rw [List.map_append]; rfl
    have hnl : s.1.length + [V.k (.int .u64 ((x : Nat) : Int))].length = (s.1 ++ [x]).length := by rw [List.length_append]; rfl
    have hgl : s.1.length + 1 = (s.1 ++ [x]).length := by rw [List.length_append]; rfl
    have hub : (s.1 ++ [x]).length ≤ 500000000 := by rw [← hgl]; omega
    clear hit hn hb
    refine wk ?_ trueW trueW
    refine ⟨rfl, ?_⟩
    refine wk ?_ trueW trueW
    rw [hgl]
    exact (show LRnd lo 1999 _ .normal _ _ from ⟨rfl, (1999, .o (lo .ready none)) :: memS l (s.1 ++ [x], s.2), by repeat (first | exact True.intro | refine And.intro rfl ?_), rfl, rfl, rfl⟩)
  · show LC _ _ _ _ _ _ _
    refine wk ?_ trueW trueW
    unfold LRet
    refine fin_mono (R := fun o m => o = .ret (.w 1090 ss.length 1 0 ss.length) ∧ m = mOut l ss) (fun o m h => ⟨ss, hss, h⟩) ?_
    exact LFin.memV (u := .w 1090 ss.length 1 0 ss.length) rfl (by repeat (first | exact True.intro | refine And.intro rfl ?_)) rfl rfl
set_option maxHeartbeats 4000000 in
theorem Collect_ (l : KV) (hn : ND l) (hb : ∀ p ∈ l, p.1 < B64 ∧ p.2 < B64) (hl : l.length < 500000000) : LM Try.prog 83 [fIt] (mIt l) fun o m => ∃ ss : List Nat, ss.Perm (keys l) ∧ o = .ret (.w 1090 ss.length 1 0 ss.length) ∧ m = mOut l ss := by
  have hc := appSeq l hn hb hl
  refine LM.enter tt Try.func83 rfl rfl rfl (by kernel_rfl) rfl rfl rfl (fun o mo ⟨ss, _, _, h⟩ => by rw [h]; rfl) fun F _ => ?_
  refine LC.seq (LC.region (LS.pp rfl rfl (Does.assign rfl rfl) rfl (LS.nil ?_)))
  show LC _ _ _ _ _ _ _
  refine LC.seq (LC.region (LS.pp rfl rfl (Does.move rfl rfl) rfl (LS.stepB rfl (DoesB.call (S := fun ss : List Nat => ss.Perm (keys l)) (v := fun ss => .w 1090 ss.length 1 0 ss.length) (mo := fun ss => mOut l ss) hc rfl rfl (Fits.same _) rfl (fun _ _ => rfl) (fun ss _ => tpre_callT (by repeat (first | exact True.intro | refine And.intro rfl ?_))) (fun i m h => h)) (fun c e => by cases e) rfl rfl fun u mem' h => ?_)))
  obtain ⟨ss, hss, rfl, rfl⟩ := h
  refine LS.pp rfl rfl (Does.assign rfl rfl) rfl (LS.nil ?_)
  show LC _ _ _ _ _ _ _
  refine wk ?_ trueW trueW
  unfold LRet
  refine fin_mono (R := fun o m => o = .ret (.w 1090 ss.length 1 0 ss.length) ∧ m = mOut l ss) (fun o m h => ⟨ss, hss, h⟩) ?_
  exact LFin.memV (u := .w 1090 ss.length 1 0 ss.length) rfl (by repeat (first | exact True.intro | refine And.intro rfl ?_)) rfl rfl
end Jw
end Lf
end Go.Proofs.Ytgjoecocahpfhaa

/- A part of the proof: texts joined. -/
import Derived.Maps.RangeRun
import Derived.Test.YtgjoecocahpfhaaQ5b06ca2
namespace Go.Proofs.Ytgjoecocahpfhaa
open Go.RowKit Rg Rp
set_option linter.unusedVariables false
set_option maxRecDepth 100000
namespace Lf
namespace Jw
open Jn
abbrev iK (n : Nat) : V := .k (.int .i64 ((n : Nat) : Int))
abbrev kU (n : Nat) : Value := .int .u64 ((n : Nat) : Int)
def B64 : Nat := 18446744073709551616
theorem mapTyJ : MapTy Try.prog 120 24 (.int .u64 0) := ⟨⟨24, by kernel_rfl, fun w => by kernel_rfl⟩, Maps.int_keyed (q := .u64) (by kernel_rfl)⟩
theorem key_U (n : Nat) (h : n < B64) : ∃ l, keyOf Try.prog 24 (kU n) = some l := ⟨_, Maps.keyOf_int_mk (q := .u64) (by kernel_rfl) (by
  have h1 : IntKind.u64.min = 0 := rfl
  have h2 : IntKind.u64.max = 18446744073709551615 := rfl
  unfold B64 at h
  simp only [Lit.wf, h1, h2, Bool.and_eq_true, decide_eq_true_eq]
  omega)⟩
theorem keyU (n : Nat) (h : n < B64) : KeyV Try.prog 24 (uK n) (kU n) := ⟨key_U n h, fun w g v hr => by cases hr; rfl⟩
theorem kU_inj {a b : Nat} (h : kU a = kU b) : a = b := Int.ofNat.inj (Value.int.inj h).2
def nowE (l : KV) : List (Value × V) := l.map fun p => (kU p.1, uK p.2)
theorem nowE_len (l : KV) : (nowE l).length = l.length := List.length_map _
theorem keysN {l : KV} (h : ∀ p ∈ l, p.1 < B64 ∧ p.2 < B64) : KeysV Try.prog 24 (nowE l) := ⟨fun p hp => by
  obtain ⟨x, hx, rfl⟩ := List.mem_map.1 hp
  exact key_U x.1 (h x hx).1⟩
theorem getN {l : KV} (hn : ND l) (k : Nat) : MGetO (nowE l) (kU k) (.k (.int .u64 0)) (uK (val l k)) (had l k) := by
  refine ⟨fun h => ?_, fun p hp e => ?_⟩
  · have : lku l k = none := by
      cases e : lku l k with
      | none => rfl
      | some v => exact absurd rfl (h (kU k, uK v) (List.mem_map.2 ⟨(k, v), look_mem e, rfl⟩))
    unfold val had
    rw [this]
    exact ⟨rfl, rfl⟩
  · obtain ⟨x, hx, rfl⟩ := List.mem_map.1 hp
    obtain rfl : x.1 = k := kU_inj e
    have := mem_look hn (k := x.1) (v := x.2) hx
    unfold val had
    rw [this]
    exact ⟨rfl, rfl⟩
theorem puk_cons (a b : Nat) (r : KV) (k v : Nat) : puk ((a, b) :: r) k v = if a = k then (k, v) :: r else (a, b) :: puk r k v := rfl
theorem at_of {l : KV} {k v : Nat} (hn : ND l) (h : lku l k = some v) : ∃ s, MAt (nowE l) s (kU k) (uK v) ∧ ∀ w, (nowE l).set s (kU k, uK w) = nowE (puk l k w) := by
  induction l with
  | nil => simp [lku] at h
  | cons p r ih =>
    obtain ⟨a, b⟩ := p
    have hn' : a ∉ keys r ∧ ND r := List.nodup_cons.1 hn
    unfold lku at h
    by_cases e : a = k
    · rw [if_pos e] at h
      cases h
      subst e
      refine ⟨0, ⟨rfl, fun j p hj e => ?_⟩, fun w => ?_⟩
      · match j with
        | 0 => rfl
        | j + 1 =>
          obtain ⟨x, hx, rfl⟩ := List.mem_map.1 (List.mem_of_getElem? (show (nowE r)[j]? = some p from hj))
          exact absurd (List.mem_map_of_mem (f := (·.1)) hx) (by rw [show x.1 = a from kU_inj e]; exact hn'.1)
      · rw [puk_cons, if_pos rfl]
        rfl
    · rw [if_neg e] at h
      obtain ⟨s, h1, h2⟩ := ih hn'.2 h
      refine ⟨s + 1, ⟨h1.at_, fun j p hj e2 => ?_⟩, fun w => ?_⟩
      · match j with
        | 0 => cases hj; exact absurd (kU_inj e2) e
        | j + 1 => rw [h1.one j p hj e2]
      · show (kU a, uK b) :: (nowE r).set s _ = nowE (puk ((a, b) :: r) k w)
        rw [h2, puk_cons, if_neg e]
        rfl
theorem no_of {l : KV} {k : Nat} (h : lku l k = none) : MNo (nowE l) (kU k) ∧ ∀ w, nowE l ++ [(kU k, uK w)] = nowE (puk l k w) := by
  induction l with
  | nil => exact ⟨⟨fun p hp => (List.not_mem_nil hp).elim⟩, fun w => rfl⟩
  | cons p r ih =>
    obtain ⟨a, b⟩ := p
    unfold lku at h
    by_cases e : a = k
    · rw [if_pos e] at h; cases h
    · rw [if_neg e] at h
      obtain ⟨h1, h2⟩ := ih h
      refine ⟨⟨fun p hp e2 => ?_⟩, fun w => ?_⟩
      · rcases List.mem_cons.1 hp with rfl | hp
        · exact e (kU_inj e2)
        · exact h1.no p hp e2
      · show (kU a, uK b) :: (nowE r ++ _) = nowE (puk ((a, b) :: r) k w)
        rw [h2, puk_cons, if_neg e]
        rfl
theorem del_of {l : KV} {k : Nat} (hn : ND l) : MDel (nowE l) (kU k) (nowE (del l k)) := by
  induction l with
  | nil => exact ⟨fun _ => rfl, fun s p hp => by simp [nowE] at hp⟩
  | cons p r ih =>
    obtain ⟨a, b⟩ := p
    have hn' : a ∉ keys r ∧ ND r := List.nodup_cons.1 hn
    have ih := ih hn'.2
    unfold del
    by_cases e : a = k
    · rw [if_pos e]
      subst e
      refine ⟨fun h => absurd rfl (h (kU a, uK b) List.mem_cons_self), fun s p hp e2 => ?_⟩
      match s with
      | 0 => rfl
      | s + 1 =>
        obtain ⟨x, hx, rfl⟩ := List.mem_map.1 (List.mem_of_getElem? (show (nowE r)[s]? = some p from hp))
        exact absurd (List.mem_map_of_mem (f := (·.1)) hx) (by rw [show x.1 = a from kU_inj e2]; exact hn'.1)
    · rw [if_neg e]
      refine ⟨fun h => ?_, fun s p hp e2 => ?_⟩
      · show (kU a, uK b) :: nowE (del r k) = (kU a, uK b) :: nowE r
        rw [ih.no fun p hp => h p (List.mem_cons_of_mem _ hp)]
      · match s with
        | 0 => cases hp; exact absurd (kU_inj e2) e
        | s + 1 =>
          show (kU a, uK b) :: nowE (del r k) = (kU a, uK b) :: (nowE r).eraseIdx s
          rw [ih.at_ s p hp e2]
abbrev enV (e : En) : V := .a [uK e.1, uK e.2.1, .k (.bool e.2.2)]
theorem en_bare (e : En) : (enV e).bare = some (enV e) := rfl
theorem en_sz (l : List En) : ∀ e ∈ l.map enV, e.cells.length = 3 := fun e he => by
  obtain ⟨x, _, rfl⟩ := List.mem_map.1 he
  rfl
theorem iK_sz (l : List Nat) : ∀ e ∈ l.map iK, e.cells.length = 1 := fun e he => by
  obtain ⟨x, _, rfl⟩ := List.mem_map.1 he
  rfl
theorem map_part {α : Type} [Inhabited α] {c : α → List V} {sz : Nat} (hc : ∀ x, (c x).length = sz) {S : List α} {ti : TI} {t : Nat} (hd : ti.d.agg = true) (hs : ti.size = sz) (ht : t < S.length) : ti.part ((S.map fun x => V.a (c x)).flatMap V.cells) (t * sz) = some (.a (c (S.getD t default))) := by
  have hsz : ∀ e ∈ S.map fun x => V.a (c x), e.cells.length = sz := fun e he => by
    obtain ⟨p, hp, rfl⟩ := List.mem_map.1 he
    exact hc p
  have hlen : ((S.map fun x => V.a (c x)).flatMap V.cells).length = S.length * sz := by
    rw [flat_len hsz, List.length_map]
  have hdr : ∀ (n : Nat) (l : List α), ((l.map fun x => V.a (c x)).flatMap V.cells).drop (n * sz) = ((l.drop n).map fun x => V.a (c x)).flatMap V.cells := fun n => by
    induction n with
    | zero => intro l; simp
    | succ n ih =>
      intro l
      cases l with
      | nil => simp
      | cons x r =>
        rw [List.map_cons, List.flatMap_cons, Nat.succ_mul, Nat.add_comm, ← List.drop_drop, List.drop_left' (show (V.a (c x)).cells.length = sz from hc x)]
        exact ih r
  have hw : (((S.map fun x => V.a (c x)).flatMap V.cells).drop (t * sz)).take sz = c (S.getD t default) := by
    rw [hdr, List.drop_eq_getElem_cons ht, List.map_cons, List.flatMap_cons, show (V.a (c S[t])).cells = c S[t] from rfl, List.take_left' (hc _), List.getD_eq_getElem?_getD, List.getElem?_eq_getElem ht]
    rfl
  simp only [TI.part, hd, cond_true, hs]
  by_cases h0 : (Nat.beq (t * sz) 0 && Nat.beq ((S.map fun x => V.a (c x)).flatMap V.cells).length sz) = true
  · rw [h0, cond_true]
    rw [Bool.and_eq_true] at h0
    have h1 := Nat.eq_of_beq_eq_true h0.1
    have h2 := Nat.eq_of_beq_eq_true h0.2
    rw [h1, List.drop_zero, List.take_of_length_le (by omega)] at hw
    rw [hw]
  · have hle : t * sz + sz ≤ S.length * sz := by rw [← Nat.succ_mul]; exact Nat.mul_le_mul_right _ ht
    rw [Bool.eq_false_iff.2 h0, cond_false, show Nat.ble (t * sz + sz) ((S.map fun x => V.a (c x)).flatMap V.cells).length = true from Nat.ble_eq_true_of_le (by rw [hlen]; exact hle), cond_true, hw]
theorem en_part {S : List En} {ti : TI} {t : Nat} (hd : ti.d.agg = true) (hs : ti.size = 3) (ht : t < S.length) : ti.part ((S.map enV).flatMap V.cells) (t * 3) = some (enV (S.getD t default)) :=
  map_part (c := fun e : En => [uK e.1, uK e.2.1, .k (.bool e.2.2)]) (fun _ => rfl) hd hs ht
abbrev jB (u m gu gm : Nat) : List V := [.mp 1001, .w 1002 gu 3 0 u, .w 1003 gm 1 0 m]
abbrev jM (now : KV) (undo : List En) (marks : List Nat) (gu gm : Nat) : Mem := [(1000, .b (jB undo.length marks.length gu gm)), (1001, .d (nowE now) none), (1002, .w 142 3 gu (undo.map enV)), (1003, .w 3 1 gm (marks.map iK))]
set_option maxHeartbeats 4000000 in
theorem note_ (s : S) (gu gm k : Nat) (h : Ok B64 s) (hk : k < B64) (hl : s.undo.length < 1000000000) : LM Try.prog 82 [.p 1000 0, uK k] (jM s.now s.undo s.marks gu gm) fun o m => o = .ret (.t []) ∧ m = jM s.now (note s k) s.marks (gu + 1) gm := by
  have hM := mapTyJ
  have hkey := keyU k hk
  have hks := keysN h.b
  have hget := getN h.nd k
  have hbr := en_bare
  have hul : (s.undo.map enV).length = s.undo.length := List.length_map _
  have hzs := en_sz s.undo
  have hz : s.undo.map enV ++ [V.a [V.k (.int .u64 ((k : Nat) : Int)), V.k (.int .u64 ((val s.now k : Nat) : Int)), V.k (.bool (had s.now k))]] = (note s k).map enV := by unfold note; rw [List.map_append]; rfl
  have hnl : s.undo.length + [V.a [V.k (.int .u64 ((k : Nat) : Int)), V.k (.int .u64 ((val s.now k : Nat) : Int)), V.k (.bool (had s.now k))]].length = (note s k).length := by unfold note; rw [List.length_append]; rfl
  have hub : (note s k).length ≤ 1000000000 := by unfold note; rw [List.length_append]; exact hl
  generalize note s k = u' at *
  refine LM.enter tt Try.func82 rfl rfl rfl (by kernel_rfl) rfl rfl rfl (fun o mo h => by rw [h.2]; rfl) fun F _ => ?_
  exact wk trueW trueW trueW
end Jw
end Lf
set_option maxRecDepth 100000
namespace Jn
structure Bal (M : List Nat) (U : List En) (l : KV) (d : Nat) (s : S) : Prop where
  nd : ND s.now
  m : ∃ own, s.marks = M ++ own ∧ own.length = d ∧ (∀ x ∈ own, U.length ≤ x ∧ x ≤ s.undo.length) ∧ own.Pairwise (· ≤ ·)
  u : ∃ X, s.undo = U ++ X ∧ Eqv (unwL s.now X) l
theorem snoc_of {α : Type} {l : List α} (h : l ≠ []) : ∃ r x, l = r ++ [x] := ⟨l.dropLast, l.getLast h, (List.dropLast_concat_getLast h).symm⟩
theorem lastD_snoc (l : List Nat) (x : Nat) : (l ++ [x]).getLastD 0 = x := by
  rw [List.getLastD_eq_getLast?, List.getLast?_append]; rfl
theorem Bal.snoc {M : List Nat} {U : List En} {l : KV} {d : Nat} {s : S} (h : Bal M U l (d + 1) s) : ∃ r x, s.marks = M ++ r ++ [x] ∧ r.length = d ∧ U.length ≤ x ∧ x ≤ s.undo.length ∧ (∀ y ∈ r, U.length ≤ y ∧ y ≤ x ∧ y ≤ s.undo.length) ∧ r.Pairwise (· ≤ ·) := by
  obtain ⟨own, h1, h2, h3, h4⟩ := h.m
  obtain ⟨r, x, rfl⟩ := snoc_of (l := own) (by rintro rfl; cases h2)
  rw [List.length_append, List.length_singleton] at h2
  have hx := h3 x (by simp)
  rw [List.pairwise_append] at h4
  exact ⟨r, x, by rw [h1, List.append_assoc], by omega, hx.1, hx.2, fun y hy => ⟨(h3 y (by simp [hy])).1, h4.2.2 y hy x (by simp), (h3 y (by simp [hy])).2⟩, h4.1⟩
theorem Bal.back {M : List Nat} {U : List En} {l : KV} {d : Nat} {s : S} (h : Bal M U l (d + 1) s) : s.marks ≠ [] ∧ Bal M U l d (back s) := by
  obtain ⟨r, x, h1, h2, hx, hx2, h3, hp⟩ := h.snoc
  obtain ⟨X, h4, h5⟩ := h.u
  have hl : s.marks.getLastD 0 = x := by rw [h1, lastD_snoc]
  have hux : s.undo.length = U.length + X.length := by rw [h4, List.length_append]
  have e1 : s.undo.take x = U ++ X.take (x - U.length) := by
    rw [h4, List.take_append, List.take_of_length_le hx]
  have e2 : s.undo.drop x = X.drop (x - U.length) := by
    rw [h4, List.drop_append, List.drop_of_length_le hx, List.nil_append]
  refine ⟨by rw [h1]; simp, ?_, ⟨r, ?_, h2, fun y hy => ?_, hp⟩, ⟨X.take (x - U.length), ?_, ?_⟩⟩
  · unfold Jn.back
    exact ((Eqv.refl h.nd).unwL _).nl
  · unfold Jn.back
    dsimp only
    rw [h1, List.dropLast_concat]
  · obtain ⟨a1, a2, a3⟩ := h3 y hy
    refine ⟨a1, ?_⟩
    unfold Jn.back
    dsimp only
    rw [hl, List.length_take]
    omega
  · unfold Jn.back
    dsimp only
    rw [hl, e1]
  · unfold Jn.back
    dsimp only
    rw [hl, e2, ← unwL_app, List.take_append_drop]
    exact h5
theorem Bal.keep {M : List Nat} {U : List En} {l : KV} {d : Nat} {s : S} (h : Bal M U l (d + 1) s) : s.marks ≠ [] ∧ Bal M U l d (keep s) := by
  obtain ⟨r, x, h1, h2, hx, hx2, h3, hp⟩ := h.snoc
  refine ⟨by rw [h1]; simp, h.nd, ⟨r, ?_, h2, fun y hy => ⟨(h3 y hy).1, (h3 y hy).2.2⟩, hp⟩, h.u⟩
  unfold Jn.keep
  dsimp only
  rw [h1, List.dropLast_concat]
theorem Bal.mark {M : List Nat} {U : List En} {l : KV} {d : Nat} {s : S} (h : Bal M U l d s) : Bal M U l (d + 1) (mark s) := by
  obtain ⟨own, h1, h2, h3, h4⟩ := h.m
  obtain ⟨X, h5, h6⟩ := h.u
  refine ⟨h.nd, ⟨own ++ [s.undo.length], ?_, by rw [List.length_append, h2]; rfl, fun x hx => ?_, ?_⟩, h.u⟩
  · show s.marks ++ _ = _
    rw [h1, List.append_assoc]
  · rcases List.mem_append.1 hx with hx | hx
    · exact h3 x hx
    · obtain rfl := List.mem_singleton.1 hx
      exact ⟨by rw [h5, List.length_append]; omega, Nat.le_refl _⟩
  · rw [List.pairwise_append]
    exact ⟨h4, List.pairwise_singleton _ _, fun x hx y hy => by
      obtain rfl := List.mem_singleton.1 hy
      exact (h3 x hx).2⟩
theorem Bal.set {M : List Nat} {U : List En} {l : KV} {d : Nat} {s : S} (h : Bal M U l d s) (o : Jop) : Bal M U l d (set1 s o) := by
  obtain ⟨own, h1, h2, h3, h4⟩ := h.m
  obtain ⟨X, h5, h6⟩ := h.u
  have hn : (set1 s o).undo = s.undo ++ [(o.key, val s.now o.key, had s.now o.key)] := rfl
  refine ⟨?_, ⟨own, h1, h2, fun x hx => ⟨(h3 x hx).1, ?_⟩, h4⟩, ⟨X ++ [(o.key, val s.now o.key, had s.now o.key)], by rw [hn, h5, List.append_assoc], ?_⟩⟩
  · unfold set1
    dsimp only
    split
    · exact nd_del h.nd
    · exact nd_put h.nd
  · rw [hn, List.length_append]
    exact Nat.le_trans (h3 x hx).2 (Nat.le_add_right _ _)
  · rw [unwL_snoc]
    exact ((Eqv.undo h.nd o).unwL X).trans h6
theorem step1 {s : S} {o : Jop} (h : o.kind = 1) : jst s o = (set1 s o, ⟨0, 0⟩) := by unfold jst; rw [if_pos h]
theorem step3 {s : S} {o : Jop} (h : o.kind = 3) : jst s o = (mark s, ⟨0, s.marks.length + 1⟩) := by unfold jst; rw [if_neg (by omega), if_neg (by omega), if_pos h]
theorem step4 {s : S} {o : Jop} (h : o.kind = 4) (hm : s.marks ≠ []) : jst s o = (back s, ⟨0, s.marks.length - 1⟩) := by unfold jst; rw [if_neg (by omega), if_neg (by omega), if_neg (by omega), if_pos h, if_neg hm]
theorem step5 {s : S} {o : Jop} (h : o.kind = 5) (hm : s.marks ≠ []) : jst s o = (keep s, ⟨0, s.marks.length - 1⟩) := by unfold jst; rw [if_neg (by omega), if_neg (by omega), if_neg (by omega), if_neg (by omega), if_pos h, if_neg hm]
theorem step_no {s : S} {o : Jop} (h1 : o.kind ≠ 1) (h3 : o.kind ≠ 3) (h4 : o.kind ≠ 4) (h5 : o.kind ≠ 5) : (jst s o).1 = s := by
  unfold jst
  rw [if_neg h1, if_neg h3, if_neg h4, if_neg h5]
  split <;> rfl
theorem bal_run {M : List Nat} {U : List En} {l : KV} : ∀ (ops : List Jop) (d : Nat) {s : S}, Bal M U l d s → Bal M U l 0 (jrun s (inn d ops)).1
  | [], 0, _, h => h
  | [], d + 1, s, h => by
    show Bal M U l 0 (jrun s (opB :: List.replicate d opB)).1
    obtain ⟨h1, h2⟩ := h.back
    have := bal_run [] d h2
    simp only [jrun]
    rw [step4 rfl h1]
    exact this
  | o :: r, d, s, h => by
    unfold inn
    by_cases h45 : o.kind = 4 ∨ o.kind = 5
    · rw [if_pos h45]
      match d, h with
      | 0, h => rw [if_pos rfl]; exact bal_run r 0 h
      | d + 1, h =>
        rw [if_neg (by omega), Nat.add_sub_cancel]
        simp only [jrun]
        rcases h45 with h4 | h5
        · rw [step4 h4 h.back.1]
          exact bal_run r d h.back.2
        · rw [step5 h5 h.keep.1]
          exact bal_run r d h.keep.2
    · rw [if_neg h45]
      have h4 : o.kind ≠ 4 := fun e => h45 (.inl e)
      have h5 : o.kind ≠ 5 := fun e => h45 (.inr e)
      by_cases h3 : o.kind = 3
      · rw [if_pos h3]
        simp only [jrun]
        rw [step3 h3]
        exact bal_run r (d + 1) h.mark
      · rw [if_neg h3]
        simp only [jrun]
        by_cases h1 : o.kind = 1
        · rw [step1 h1]
          exact bal_run r d (h.set o)
        · rw [step_no h1 h3 h4 h5]
          exact bal_run r d h
theorem take_self {α : Type} {a b : List α} : (a ++ b).take a.length = a := by rw [List.take_append, List.take_of_length_le (Nat.le_refl _), Nat.sub_self, List.take_zero, List.append_nil]
theorem drop_self {α : Type} {a b : List α} : (a ++ b).drop a.length = b := by rw [List.drop_append, List.drop_of_length_le (Nat.le_refl _), Nat.sub_self, List.drop_zero, List.nil_append]
def opM : Jop := ⟨3, 0, 0⟩
def opK : Jop := ⟨5, 0, 0⟩
theorem back_sim {s : S} (hs : ND s.now) (bt : List Jop) : Sim (jrun s (opM :: (inn 0 bt ++ [opB]))).1 s := by
  have h0 : Bal (s.marks ++ [s.undo.length]) s.undo s.now 0 (mark s) := ⟨hs, ⟨[], by rw [List.append_nil]; rfl, rfl, fun x hx => (List.not_mem_nil hx).elim, .nil⟩, ⟨[], by rw [List.append_nil]; rfl, Eqv.refl hs⟩⟩
  have h1 := bal_run bt 0 h0
  simp only [jrun, run_app]
  rw [step3 (o := opM) rfl]
  generalize (jrun (mark s) (inn 0 bt)).1 = t at *
  obtain ⟨own, a1, a2, _, _⟩ := h1.m
  obtain ⟨X, a3, a4⟩ := h1.u
  obtain rfl := List.length_eq_zero_iff.1 a2
  rw [List.append_nil] at a1
  have hl : t.marks.getLastD 0 = s.undo.length := by rw [a1, lastD_snoc]
  rw [step4 rfl (by rw [a1]; simp)]
  refine ⟨?_, ?_, ?_⟩
  · show Eqv (unwL t.now (t.undo.drop (t.marks.getLastD 0))) s.now
    rw [hl, a3, drop_self]
    exact a4
  · show t.undo.take (t.marks.getLastD 0) = s.undo
    rw [hl, a3, take_self]
  · show t.marks.dropLast = s.marks
    rw [a1, List.dropLast_concat]
structure Two (A : List Nat) (z d : Nat) (s t : S) : Prop where
  now : s.now = t.now
  undo : s.undo = t.undo
  m : ∃ own, s.marks = A ++ z :: own ∧ t.marks = A ++ own ∧ own.length = d
theorem Two.snoc {A : List Nat} {z d : Nat} {s t : S} (h : Two A z (d + 1) s t) : ∃ r x, s.marks = A ++ z :: r ++ [x] ∧ t.marks = A ++ r ++ [x] ∧ r.length = d := by
  obtain ⟨own, h1, h2, h3⟩ := h.m
  obtain ⟨r, x, rfl⟩ := snoc_of (l := own) (by rintro rfl; cases h3)
  rw [List.length_append, List.length_singleton] at h3
  exact ⟨r, x, by rw [h1, List.append_assoc]; rfl, by rw [h2, List.append_assoc], by omega⟩
theorem Two.back {A : List Nat} {z d : Nat} {s t : S} (h : Two A z (d + 1) s t) : s.marks ≠ [] ∧ t.marks ≠ [] ∧ Two A z d (back s) (back t) := by
  obtain ⟨r, x, h1, h2, h3⟩ := h.snoc
  have l1 : s.marks.getLastD 0 = x := by rw [h1, lastD_snoc]
  have l2 : t.marks.getLastD 0 = x := by rw [h2, lastD_snoc]
  refine ⟨by rw [h1]; simp, by rw [h2]; simp, ?_, ?_, ⟨r, ?_, ?_, h3⟩⟩
  · unfold Jn.back; dsimp only; rw [l1, l2, h.now, h.undo]
  · unfold Jn.back; dsimp only; rw [l1, l2, h.undo]
  · unfold Jn.back; dsimp only; rw [h1, List.dropLast_concat]
  · unfold Jn.back; dsimp only; rw [h2, List.dropLast_concat]
theorem Two.keep {A : List Nat} {z d : Nat} {s t : S} (h : Two A z (d + 1) s t) : s.marks ≠ [] ∧ t.marks ≠ [] ∧ Two A z d (keep s) (keep t) := by
  obtain ⟨r, x, h1, h2, h3⟩ := h.snoc
  refine ⟨by rw [h1]; simp, by rw [h2]; simp, h.now, h.undo, ⟨r, ?_, ?_, h3⟩⟩
  · unfold Jn.keep; dsimp only; rw [h1, List.dropLast_concat]
  · unfold Jn.keep; dsimp only; rw [h2, List.dropLast_concat]
theorem two_run {A : List Nat} {z : Nat} : ∀ (ops : List Jop) (d : Nat) {s t : S}, Two A z d s t → Two A z 0 (jrun s (inn d ops)).1 (jrun t (inn d ops)).1
  | [], 0, _, _, h => h
  | [], d + 1, s, t, h => by
    show Two A z 0 (jrun s (opB :: List.replicate d opB)).1 (jrun t (opB :: List.replicate d opB)).1
    obtain ⟨h1, h2, h3⟩ := h.back
    have := two_run [] d h3
    simp only [jrun]
    rw [step4 rfl h1, step4 rfl h2]
    exact this
  | o :: r, d, s, t, h => by
    unfold inn
    by_cases h45 : o.kind = 4 ∨ o.kind = 5
    · rw [if_pos h45]
      match d, h with
      | 0, h => rw [if_pos rfl]; exact two_run r 0 h
      | d + 1, h =>
        rw [if_neg (by omega), Nat.add_sub_cancel]
        simp only [jrun]
        rcases h45 with h4 | h5
        · rw [step4 h4 h.back.1, step4 h4 h.back.2.1]
          exact two_run r d h.back.2.2
        · rw [step5 h5 h.keep.1, step5 h5 h.keep.2.1]
          exact two_run r d h.keep.2.2
    · rw [if_neg h45]
      have h4 : o.kind ≠ 4 := fun e => h45 (.inl e)
      have h5 : o.kind ≠ 5 := fun e => h45 (.inr e)
      by_cases h3 : o.kind = 3
      · rw [if_pos h3]
        simp only [jrun]
        rw [step3 h3, step3 h3]
        refine two_run r (d + 1) ?_
        obtain ⟨own, a1, a2, a3⟩ := h.m
        exact ⟨h.now, h.undo, ⟨own ++ [s.undo.length], by show s.marks ++ _ = _; rw [a1, List.append_assoc]; rfl, by show t.marks ++ [t.undo.length] = _; rw [a2, h.undo, List.append_assoc], by rw [List.length_append, a3]; rfl⟩⟩
      · rw [if_neg h3]
        simp only [jrun]
        by_cases h1 : o.kind = 1
        · rw [step1 h1, step1 h1]
          refine two_run r d ⟨?_, ?_, h.m⟩
          · unfold set1; dsimp only; rw [h.now]
          · unfold set1 note; dsimp only; rw [h.now, h.undo]
        · rw [step_no h1 h3 h4 h5, step_no h1 h3 h4 h5]
          exact two_run r d h
theorem keep_same (s : S) (bt : List Jop) : (jrun s (opM :: (inn 0 bt ++ [opK]))).1 = (jrun s (inn 0 bt)).1 := by
  have h0 : Two s.marks s.undo.length 0 (mark s) s := ⟨rfl, rfl, ⟨[], rfl, by rw [List.append_nil], rfl⟩⟩
  have h1 := two_run bt 0 h0
  simp only [jrun, run_app]
  rw [step3 (o := opM) rfl]
  generalize (jrun (mark s) (inn 0 bt)).1 = t at *
  generalize (jrun s (inn 0 bt)).1 = u at *
  obtain ⟨own, a1, a2, a3⟩ := h1.m
  obtain rfl := List.length_eq_zero_iff.1 a3
  rw [step5 rfl (by rw [a1]; simp)]
  show (⟨t.now, t.undo, t.marks.dropLast⟩ : S) = u
  rw [h1.now, h1.undo, a1, List.dropLast_concat, ← List.append_nil s.marks, ← a2]
def srt (l : List Nat) : List Nat := l.mergeSort fun a b => decide (a ≤ b)
theorem srt_perm (l : List Nat) : (srt l).Perm l := List.mergeSort_perm _ _
theorem srt_le (l : List Nat) : (srt l).Pairwise (· ≤ ·) := by
  have := List.pairwise_mergeSort (le := fun a b : Nat => decide (a ≤ b)) (fun a b c h1 h2 => decide_eq_true (Nat.le_trans (of_decide_eq_true h1) (of_decide_eq_true h2))) (fun a b => by
    rcases Nat.le_total a b with h | h <;> simp [h]) l
  exact this.imp fun h => of_decide_eq_true h
theorem uniq_le : ∀ {a b : List Nat}, a.Pairwise (· ≤ ·) → b.Pairwise (· ≤ ·) → a.Perm b → a = b
  | [], b, _, _, h => (List.Perm.nil_eq h)
  | x :: r, [], _, _, h => by have := h.length_eq; simp at this
  | x :: r, y :: s, ha, hb, h => by
    obtain ⟨a1, a2⟩ := List.pairwise_cons.1 ha
    obtain ⟨b1, b2⟩ := List.pairwise_cons.1 hb
    have e : x = y := by
      have hx : x ∈ y :: s := h.subset List.mem_cons_self
      have hy : y ∈ x :: r := h.symm.subset List.mem_cons_self
      rcases List.mem_cons.1 hx with hx | hx
      · exact hx
      · rcases List.mem_cons.1 hy with hy | hy
        · exact hy.symm
        · exact Nat.le_antisymm (a1 y hy) (b1 x hx)
    subst e
    rw [uniq_le a2 b2 (List.Perm.cons_inv h)]
theorem srt_of_perm {a b : List Nat} (h : a.Perm b) : srt a = srt b := uniq_le (srt_le a) (srt_le b) ((srt_perm a).trans (h.trans (srt_perm b).symm))
def fin (l : KV) : List (Nat × Nat) := (srt (keys l)).map fun k => (k, val l k)
theorem perm_of {a b : List Nat} (ha : a.Nodup) (hb : b.Nodup) (h : ∀ x, x ∈ a ↔ x ∈ b) : a.Perm b := by
  rw [List.perm_iff_count]
  intro x
  have hc : ∀ {l : List Nat}, l.Nodup → l.count x = if x ∈ l then 1 else 0 := fun {l} hl => by
    split
    · rename_i hm
      have h1 := List.nodup_iff_count.1 hl x
      have h2 := List.one_le_count_iff.2 hm
      omega
    · rename_i hm
      exact List.count_eq_zero.2 hm
  rw [hc ha, hc hb]
  simp only [h]
theorem fin_eqv {l m : KV} (h : Eqv l m) : fin l = fin m := by
  have hk : (keys l).Perm (keys m) := perm_of h.nl h.nm fun x => by
    have h1 := look_none (k := x) (l := l)
    have h2 := look_none (k := x) (l := m)
    rw [h.eq] at h1
    constructor
    · intro hx
      refine Classical.byContradiction fun hn => h1.1 (h2.2 hn) hx
    · intro hx
      refine Classical.byContradiction fun hn => h2.1 (h1.2 hn) hx
  unfold fin
  rw [srt_of_perm hk]
  refine List.map_congr_left fun k _ => ?_
  unfold val
  rw [h.eq]
theorem mem_keys {l : KV} {k : Nat} : k ∈ keys l ↔ ∃ v, lku l k = some v := by
  constructor
  · intro h
    cases e : lku l k with
    | none => exact absurd h (look_none.1 e)
    | some v => exact ⟨v, rfl⟩
  · rintro ⟨v, h⟩
    exact List.mem_map_of_mem (f := (·.1)) (look_mem h)
theorem fin_mem {l : KV} {p : Nat × Nat} : p ∈ fin l ↔ lku l p.1 = some p.2 := by
  unfold fin
  rw [List.mem_map]
  constructor
  · rintro ⟨k, hk, rfl⟩
    obtain ⟨v, hv⟩ := mem_keys.1 ((srt_perm _).subset hk)
    show lku l k = some (val l k)
    unfold val
    rw [hv]; rfl
  · intro h
    refine ⟨p.1, (srt_perm _).symm.subset (mem_keys.2 ⟨_, h⟩), ?_⟩
    unfold val
    rw [h]; rfl
theorem back_law (bf bt bh : List Jop) : (jrun S0 (bf ++ (opM :: (inn 0 bt ++ [opB])) ++ bh)).2.drop (bf.length + (inn 0 bt).length + 2) = (jrun S0 (bf ++ bh)).2.drop bf.length ∧ fin (jrun S0 (bf ++ (opM :: (inn 0 bt ++ [opB])) ++ bh)).1.now = fin (jrun S0 (bf ++ bh)).1.now := by
  have hs : Sim (jrun (jrun S0 bf).1 (opM :: (inn 0 bt ++ [opB]))).1 (jrun S0 bf).1 := back_sim (Ok.jrun (B := 0) (ops := []) (by simp [OpsOk]) (ok0 0) |> fun _ => by
    have : ∀ (ops : List Jop) (s : S), ND s.now → ND (jrun s ops).1.now := fun ops s h => (Sim.jrun ops (s := s) (t := s) ⟨Eqv.refl h, rfl, rfl⟩).1.now.nl
    exact this bf S0 (ok0 0).nd) bt
  obtain ⟨h1, h2⟩ := Sim.jrun bh hs
  rw [run_app, run_app, run_app]
  dsimp only
  refine ⟨?_, fin_eqv h1.now⟩
  rw [show bf.length = (jrun S0 bf).2.length from (run_len bf S0).symm, drop_self]
  have hl : ((jrun S0 bf).2 ++ (jrun (jrun S0 bf).1 (opM :: (inn 0 bt ++ [opB]))).2).length = (jrun S0 bf).2.length + (inn 0 bt).length + 2 := by
    rw [List.length_append, run_len _ (jrun S0 bf).1, List.length_cons, List.length_append, List.length_singleton]; omega
  rw [← hl, drop_self]
  exact h2
theorem keep_law (bf bt bh : List Jop) : (jrun S0 (bf ++ (opM :: (inn 0 bt ++ [opK])) ++ bh)).2.drop (bf.length + (inn 0 bt).length + 2) = (jrun S0 (bf ++ inn 0 bt ++ bh)).2.drop (bf.length + (inn 0 bt).length) ∧ (jrun S0 (bf ++ (opM :: (inn 0 bt ++ [opK])) ++ bh)).1 = (jrun S0 (bf ++ inn 0 bt ++ bh)).1 := by
  have hs := keep_same (jrun S0 bf).1 bt
  rw [run_app, run_app, run_app, run_app, hs]
  dsimp only
  refine ⟨?_, rfl⟩
  have hl : ((jrun S0 bf).2 ++ (jrun (jrun S0 bf).1 (opM :: (inn 0 bt ++ [opK]))).2).length = bf.length + (inn 0 bt).length + 2 := by
    rw [List.length_append, run_len _ (jrun S0 bf).1, run_len, List.length_cons, List.length_append, List.length_singleton]; omega
  have hl2 : ((jrun S0 bf).2 ++ (jrun (jrun S0 bf).1 (inn 0 bt)).2).length = bf.length + (inn 0 bt).length := by
    rw [List.length_append, run_len, run_len]
  rw [← hl, drop_self, ← hl2, drop_self]
theorem read_law (ops : List Jop) (key value other : Nat) : ∃ A a b c d, jrun S0 (ops ++ [⟨2, other, 0⟩, ⟨1, key, value⟩, ⟨2, key, 0⟩, ⟨2, other, 0⟩]) = (A, (jrun S0 ops).2 ++ [a, b, c, d]) ∧ c = ⟨0, value⟩ ∧ (key ≠ other → d = a) ∧ ((key, value) ∈ fin A.now ↔ value ≠ 0) := by
  have hn : ND (jrun S0 ops).1.now := (Sim.jrun ops (s := S0) (t := S0) ⟨Eqv.refl (ok0 0).nd, rfl, rfl⟩).1.now.nl
  rw [run_app]
  generalize (jrun S0 ops).1 = s at *
  have e2 : ∀ (s : S) (k : Nat), jst s ⟨2, k, 0⟩ = (s, ⟨0, val s.now k⟩) := fun s k => by unfold jst; rw [if_neg (show (2 : Int) ≠ 1 by decide), if_pos rfl]
  have e1 : jst s ⟨1, key, value⟩ = (set1 s ⟨1, key, value⟩, ⟨0, 0⟩) := step1 rfl
  have hlk : ∀ j, lku (set1 s ⟨1, key, value⟩).now j = if key = j then (if value = 0 then none else some value) else lku s.now j := fun j => by
    unfold set1
    dsimp only
    split
    · rw [look_del hn]
    · rw [look_put]
  refine ⟨_, _, _, _, _, rfl, ?_, fun hne => ?_, ?_⟩
  · simp only [e2, e1, Ans.mk.injEq, true_and]
    unfold val
    rw [hlk, if_pos rfl]
    split
    · rename_i h; rw [h]; rfl
    · rfl
  · simp only [e2, e1, Ans.mk.injEq, true_and]
    unfold val
    rw [hlk, if_neg hne]
  · simp only [jrun, e2, e1]
    rw [fin_mem, hlk, if_pos rfl]
    split
    · rename_i h; simp [h]
    · rename_i h; simp [h]
end Jn
open Go.RowKit Rg
namespace Lf
section
variable {P : Program} {F : Fr0} {N : Nat} {Q : LQ} {env : Env} {mem : Mem} {o : Oper} {ops : Array Oper} {rs : List Oper} {d : Nat}
structure DoesB (P : Program) (o : Oper) (env : Env) (mem : Mem) (A : V → Mem → Prop) : Prop where
  ex : ∀ (F : Fr0) (g : Gh) (a : Act) (w : World), (∀ x ∈ o.op.operands.toList, ∀ u, evo env x = some u → Rep w g u (a.eval x)) → RelM F g mem w → Kept F g w →
    ∀ (K : Act → World → Prop) (Q : Exit → Act → World → Prop), (∀ v mem' x g' w', A v mem' → Ev g w g' w' → RelM F g' mem' w' → Kept F g' w' → Rep w' g' v x → K (a.put o.dst x) w') → o.wp P a w K Q
theorem LS.stepB {A : V → Mem → Prop} (hg : gd ops env o = some true) (h : DoesB P o env mem A) (hnd : ∀ c, o.op ≠ .defer c) (hds : o.dst = some d) (hd : Nat.blt d N = true) (hK : ∀ v mem', A v mem' → LS P F N ops rs Q ((d, v) :: env) mem') : LS P F N ops (o :: rs) Q env mem := ⟨fun F0 hx g a w hr =>
  wpListIn_step fun _ hK' => by
    rw [gd_wanted hr hg, if_pos rfl]
    refine op_in (h.ex F0 g a w (fun _ _ _ hu => hr.evo hu) hr.mem hr.kept _ _ fun v mem' x g' w' hA he hm hk hx' => hK' _ _ ((hK v mem' hA).go F0 hx g' _ w' ?_)) hnd
    have := hr.put (d := o.dst) he hm hk hx' (by rw [hds]; exact hd)
    rw [hds] at this ⊢
    exact this⟩
theorem DoesB.call {σ : Type} {fx : Nat} {xs : List Operand} {ts : Array Nat} {us args : List V} {mi : Mem} {S : σ → Prop} {v : σ → V} {mo : σ → Mem} (hc : LM P fx args mi fun o m => ∃ s, S s ∧ o = .ret (v s) ∧ m = mo s) (ho : o.op = .call { callee := .value (.func fx), args := xs.toArray, argTypes := ts }) (hx : evs env xs = some us) (hu : Fits us args)
    (hr : (V.refs.go mi args && refsM mi mi) = true) (hko : ∀ s, S s → keysOk mi (mo s) = true) (ht : ∀ s, S s → tpre (callT mi (mo s)) mem) (ht0 : ∀ i m, aget mi i = some m → aget mem i = some m) : DoesB P o env mem fun u m => ∃ s, S s ∧ u = v s ∧ m = mo s ++ mem := by
  refine ⟨fun F g a w h1 h2 h3 K Q hK => ?_⟩
  simp only [Bool.and_eq_true] at hr
  obtain ⟨l1, l2⟩ := args_rep (fun x hxm u hxu => h1 x (by simp [ho, Op.operands, Call.operands]; exact .inr hxm) u hxu) hx hu
  unfold Oper.wp
  rw [exec_call ho hc.ok]
  refine Calls.mono (call_ends hc h2 h3 hr.2 hr.1 ht0 l1 l2) ?_
  rintro e w' ⟨o', mo', ⟨s, hs, rfl, rfl⟩, hq⟩
  obtain ⟨t1, t2⟩ := tpre_call (ht s hs) (hko s hs)
  obtain ⟨g2, k1, k2, k3, x, rfl, k4⟩ := hq (hko s hs) t2
  exact hK _ _ x g2 w' ⟨s, hs, rfl, rfl⟩ k1 k2 k3 k4
theorem RelM.retell {g : Gh} {w : World} {r : Nat} {z z' : M} (h : RelM F g mem w) (hr : aget mem r = some z) (ho : ObjAt g w r z') (hf : ∀ b o, fp g r z' b o → fp g r z b o) : RelM F g ((r, z') :: mem) w := by
  have old : ∀ {i : Nat} {y : M}, aget ((r, z') :: mem) i = some y → ∃ y', aget mem i = some y' ∧ ∀ b o, fp g i y b o → fp g i y' b o := fun {i y} hi => by
    rw [aget_cons] at hi
    split at hi
    · rename_i e; subst e; cases hi
      exact ⟨_, hr, hf⟩
    · exact ⟨_, hi, fun _ _ hf => hf⟩
  have non : ∀ i, aget ((r, z') :: mem) i = none → aget mem i = none := fun i hi => by
    rw [aget_cons] at hi
    split at hi
    · cases hi
    · exact hi
  refine ⟨fun i y hi => ?_, fun i y b o hi hp => ?_, fun i j y y' b o hij hi hj hp hp' => ?_, fun i hi => h.nbx i (non i hi), fun i hi => h.nrw i (non i hi), h.fut, h.loc⟩
  · rw [aget_cons] at hi
    split at hi
    · rename_i e; subst e; cases hi; exact ho
    · exact h.ob i y hi
  · obtain ⟨y', h1, h2⟩ := old hi
    exact h.wr i y' b o h1 (h2 b o hp)
  · obtain ⟨q, h1, h2⟩ := old hi
    obtain ⟨q', h1', h2'⟩ := old hj
    exact h.dj i j q q' b o hij h1 h1' (h2 b o hp) (h2' b o hp')
theorem LC.stamps {c : Code} {m : Nat} {es : List (Value × V)} {st : Option (List Nat × Nat)} (hm : aget mem m = some (.d es st)) (h : ∀ bs k, bs.length = es.length → bs.Nodup → (∀ b ∈ bs, b < k) → LC P F N c Q env ((m, .d es (some (bs, k))) :: mem)) : LC P F N c Q env mem := ⟨fun F0 hx g a w hrel => by
  obtain ⟨b, off, hg, hM⟩ := hrel.mem.mapD hm
  obtain ⟨en, clk, q1, q2, q3, q5, _, q4⟩ := hM.own
  refine (h (en.toList.map (·.born)) clk (by simp [q2]) q5 fun x hx => ?_).go F0 hx g a w ⟨hrel.env, hrel.mem.retell hm (.d hg ⟨⟨en, clk, q1, q2, q3, q5, fun bs c e => by cases e; exact ⟨rfl, rfl⟩, q4⟩, hM.free⟩) fun _ _ hf => hf, hrel.kept, hrel.defers, hrel.size, hrel.big⟩
  obtain ⟨z, hz, rfl⟩ := List.mem_map.1 hx
  obtain ⟨j, hj⟩ := List.mem_iff_getElem?.1 hz
  exact q3 j z (by simpa using hj)⟩
theorem LC.unstamp {c : Code} {m : Nat} {es : List (Value × V)} {st : Option (List Nat × Nat)} (hm : aget mem m = some (.d es st)) (h : LC P F N c Q env ((m, .d es none) :: mem)) : LC P F N c Q env mem := ⟨fun F0 hx g a w hrel => by
  obtain ⟨b, off, hg, hM⟩ := hrel.mem.mapD hm
  obtain ⟨en, clk, q1, q2, q3, q5, _, q4⟩ := hM.own
  exact h.go F0 hx g a w ⟨hrel.env, hrel.mem.retell hm (.d hg ⟨⟨en, clk, q1, q2, q3, q5, (fun bs c e => by cases e), q4⟩, hM.free⟩) fun _ _ hf => hf, hrel.kept, hrel.defers, hrel.size, hrel.big⟩⟩
theorem Does.rangeD {T m i kt e : Nat} {x : Operand} {es : List (Value × V)} {bs : List Nat} {c : Nat} (hu : P.underlying T = some (.map kt e)) (ho : o.op = .range T x) (hx : evo env x = some (.mp m)) : Does P o env (.p i 0) [(m, some (.d es (some (bs, c))), none), (i, none, some (.it m c []))] := by
  refine ⟨fun F g a w mem h1 h2 h3 h4 _ K Q hK => ?_⟩
  have hm := h4 m _ _ List.mem_cons_self
  have hi := h4 i _ _ (List.mem_cons_of_mem _ mem_one)
  obtain ⟨b, off, hg, hM⟩ := h2.mapD hm
  obtain ⟨en, clk, q1, q2, q3, q5, q6, q4⟩ := hM.own
  obtain ⟨e1, rfl⟩ := q6 bs c rfl
  have r1 := h1 x (by simp [ho, Op.operands]) _ hx
  generalize hy1 : a.eval x = v at r1
  obtain rfl : v = .map (some b) := by
    cases r1 with
    | mp h => rw [hg] at h; cases h; rfl
  have hne : m ≠ i := fun e => by rw [e, hi] at hm; cases hm
  have hbi : (g.newB i w.heap.size 0).bx i = some (w.heap.size, 0) := by simp [Gh.newB]
  have hbm : (g.newB i w.heap.size 0).bx m = some (b, off) := by simp [Gh.newB, hne, hg]
  obtain ⟨k1, k2, k3⟩ := h2.newB h3 (i := i) (n := 0) (m' := .it m clk []) (o := .mapIter (some b) clk #[] clk) hi (.it hbi hbm (heap_alloc_at w _) fun o hs => by have := hs.2 rfl; omega) fun b' o' ⟨off, hp⟩ => by rw [hbi] at hp; cases hp; rfl
  unfold Oper.wp
  have hrun : (execOp a.eval o).run P w = .ok (.value (.pointer (some ⟨w.heap.size, 0, none⟩))) (w.alloc (.mapIter (some b) clk #[] clk)) := by
    simp [execOp, ho, hy1, Instr.range, run_underlying hu, MapKept.run_getObj_map q1, newObj, Sem.run, Result.andThen]
  rw [hrun]
  exact hK _ _ _ k1 k2 k3 (.p hbi)
theorem ptr_rep {g : Gh} {w : World} {x : Value} {i b : Nat} (h : Rep w g (.p i 0) x) (hb : g.bx i = some (b, 0)) : x = .pointer (some ⟨b, 0, none⟩) := by
  cases h with
  | p h => rw [hb] at h; cases h; rfl
theorem LS.nextD {m i c : Nat} {seen bs : List Nat} {es : List (Value × V)} {x : Operand} (hg : gd ops env o = some true) (hds : o.dst = some d) (ho : o.op = .next x false) (hx : evo env x = some (.p i 0)) (hi : aget mem i = some (.it m c seen)) (hm : aget mem m = some (.d es (some (bs, c)))) (hd : Nat.blt d N = true)
    (hDone : (∀ b ∈ bs, b ∈ seen) → LS P F N ops rs Q ((d, .t [.k (.bool false)]) :: env) mem)
    (hMore : ∀ (j b : Nat) (k : Value) (v : V), es[j]? = some (k, v) → bs[j]? = some b → b ∉ seen → LS P F N ops rs Q ((d, .t [.k (.bool true), .k k, v]) :: env) ((i, .it m c (seen ++ [b])) :: mem)) : LS P F N ops (o :: rs) Q env mem := by
  refine LS.stepB (A := fun u mem' => (u = .t [.k (.bool false)] ∧ mem' = mem ∧ ∀ b ∈ bs, b ∈ seen) ∨ ∃ (j b : Nat) (k : Value) (v : V), u = .t [.k (.bool true), .k k, v] ∧ mem' = (i, .it m c (seen ++ [b])) :: mem ∧ es[j]? = some (k, v) ∧ bs[j]? = some b ∧ b ∉ seen) hg ⟨fun F g a w h1 h2 h3 K Q hK => ?_⟩ (fun c e => by rw [ho] at e; cases e) hds hd fun v mem' h => ?_
  · obtain ⟨mb, off, hgm, hM⟩ := h2.mapD hm
    obtain ⟨en, clk, q1, q2, q3, q5, q6, q4⟩ := hM.own
    obtain ⟨e1, rfl⟩ := q6 bs c rfl
    obtain ⟨ib, hgi, hit, hS⟩ : ∃ ib, g.bx i = some (ib, 0) ∧ w.heap[ib]? = some (.mapIter (some mb) clk seen.toArray clk) ∧ ∀ o, ¬ g.S ib o := by
      cases h2.ob i _ hi with
      | it hg hm' h hS => rw [hgm] at hm'; cases hm'; exact ⟨_, hg, h, hS⟩
    have hv := ptr_rep (h1 x (by simp [ho, Op.operands]) _ hx) hgi
    have hold : ∀ z ∈ en.toList, z.born < clk := fun z hz => by
      obtain ⟨j, hj⟩ := List.mem_iff_getElem?.1 hz
      exact q3 j z (by simpa using hj)
    unfold Oper.wp
    rcases run_next_at (P := P) w o.type ib mb clk clk seen.toArray en clk hit q1 hold (Nat.le_refl _) with ⟨h0, hrun⟩ | ⟨z, hz, w1, hal, hrun⟩
    · have hrun' : (execOp a.eval o).run P w = .ok (.value (.tuple #[.bool false])) w := by simp [execOp, ho, hv, hrun, Result.andThen]
      rw [hrun']
      refine hK _ _ _ g w (.inl ⟨rfl, rfl, fun b hb => ?_⟩) (Ev.refl g w) h2 h3 (.t rfl fun j u z hj hz => ?_)
      · rw [← e1] at hb
        obtain ⟨z, hz, rfl⟩ := List.mem_map.1 hb
        have hz' : z ∉ leftOf en seen.toArray := fun h => by
          rw [Array.eq_empty_of_size_eq_zero h0] at h; simp at h
        unfold leftOf at hz'
        simp at hz'
        exact hz' (by simpa using hz)
      · match j with
        | 0 => simp at hj hz; subst hj; subst hz; exact .k _
        | j + 1 => simp at hj
    · have hz2 : z ∈ en.toList ∧ z.born ∉ seen := by
        unfold leftOf at hz
        simpa using hz
      obtain ⟨j, hj⟩ := List.mem_iff_getElem?.1 hz2.1
      have hj' : en[j]? = some z := by simpa using hj
      obtain ⟨p, hp1, hp2, hp3⟩ := d_at q2 q4 j z hj'
      have hbs : bs[j]? = some z.born := by rw [← e1, List.getElem?_map, hj]; rfl
      have hw1 : Ev g w g w1 ∧ RelM F g mem w1 ∧ Kept F g w1 ∧ w1.heap = w.heap := by
        rcases hal with rfl | rfl
        · exact ⟨Ev.refl g _, h2, h3, rfl⟩
        · obtain ⟨d1, d2, d3⟩ := drew_relT h2 h3
          exact ⟨d1, d2, d3, rfl⟩
      obtain ⟨v1, v2, v3, v4⟩ := hw1
      obtain ⟨k1, k2, k3⟩ := v2.setO v3 (w' := ChangeMaps.setBlock w1 ib (.mapIter (some mb) clk (seen.toArray.push z.born) clk)) (m' := .it m clk (seen ++ [z.born])) (ob := .mapIter (some mb) clk (seen.toArray.push z.born) clk) hi (fun _ _ => Iff.rfl) hgi hS rfl rfl rfl rfl (fun he => .it hgi hgm (by
        show (w1.heap.setIfInBounds ib _)[ib]? = _
        rw [Array.getElem?_setIfInBounds_self_of_lt (by rw [v4]; exact (Array.getElem?_eq_some_iff.1 hit).1)]
        simp) hS) (fun _ _ hp' => hp')
      have hrun' : (execOp a.eval o).run P w = .ok (.value (.tuple #[.bool true, z.key, z.val])) (ChangeMaps.setBlock w1 ib (.mapIter (some mb) clk (seen.toArray.push z.born) clk)) := by simp [execOp, ho, hv, hrun, Result.andThen]
      rw [hrun']
      refine hK _ _ _ g _ (.inr ⟨j, z.born, p.1, p.2, rfl, rfl, hp1, hbs, hz2.2⟩) (v1.trans k1) k2 k3 (.t rfl fun j' u y hj2 hy => ?_)
      match j' with
      | 0 => simp at hj2 hy; subst hj2; subst hy; exact .k _
      | 1 => simp at hj2 hy; subst hj2; subst hy; rw [hp2]; exact .k _
      | 2 => simp at hj2 hy; subst hj2; subst hy; exact ((hp3.of_bare).mono v1).mono k1
      | j' + 3 => simp at hj2
  · rcases h with ⟨rfl, rfl, h⟩ | ⟨j, b, k, v, rfl, rfl, h1, h2, h3⟩
    · exact hDone h
    · exact hMore j b k v h1 h2 h3
theorem LS.entryD {m i c j b : Nat} {seen bs : List Nat} {es : List (Value × V)} {x : Operand} {k : Value} {v : V} (hg : gd ops env o = some true) (hds : o.dst = some d) (ho : o.op = .entry x) (hx : evo env x = some (.p i 0)) (hi : aget mem i = some (.it m c (seen ++ [b]))) (hm : aget mem m = some (.d es (some (bs, c)))) (hj : es[j]? = some (k, v)) (hb : bs[j]? = some b) (hd : Nat.blt d N = true)
    (hK : LS P F N ops rs Q ((d, .t [.k k, v]) :: env) mem) : LS P F N ops (o :: rs) Q env mem := by
  refine LS.stepB (A := fun u mem' => u = .t [.k k, v] ∧ mem' = mem) hg ⟨fun F g a w h1 h2 h3 K Q hK => ?_⟩ (fun c e => by rw [ho] at e; cases e) hds hd fun v' mem' h => by obtain ⟨rfl, rfl⟩ := h; exact hK
  obtain ⟨mb, off, hgm, hM⟩ := h2.mapD hm
  obtain ⟨en, clk, q1, q2, q3, q5, q6, q4⟩ := hM.own
  obtain ⟨e1, rfl⟩ := q6 bs c rfl
  obtain ⟨ib, hgi, hit⟩ : ∃ ib, g.bx i = some (ib, 0) ∧ w.heap[ib]? = some (.mapIter (some mb) clk (seen ++ [b]).toArray clk) := by
    cases h2.ob i _ hi with
    | it hg hm' h hS => rw [hgm] at hm'; cases hm'; exact ⟨_, hg, h⟩
  have hv := ptr_rep (h1 x (by simp [ho, Op.operands]) _ hx) hgi
  have hlt : j < en.size := by have := (List.getElem?_eq_some_iff.1 hj).1; omega
  have hz : en[j]? = some en[j] := Array.getElem?_eq_getElem hlt
  have hbz : b = en[j].born := by
    rw [← e1, List.getElem?_map, Array.getElem?_toList, hz] at hb
    exact (Option.some.inj hb).symm
  obtain ⟨hk1, hk2⟩ := q4 j k v _ hj hz
  have hit' : w.heap[ib]? = some (.mapIter (some mb) clk (seen.toArray.push en[j].born) clk) := by rw [hit, hbz]; simp
  have hrun := run_entry_at (P := P) w ib mb clk seen.toArray en clk en[j] hit' q1 (by simp) q5
  unfold Oper.wp
  have hrun' : (execOp a.eval o).run P w = .ok (.value (.tuple #[en[j].key, en[j].val])) w := by simp [execOp, ho, hv, hrun, Result.andThen]
  rw [hrun']
  refine hK _ _ _ g w ⟨rfl, rfl⟩ (Ev.refl g w) h2 h3 (.t rfl fun j' u y hj2 hy => ?_)
  match j' with
  | 0 => simp at hj2 hy; subst hj2; subst hy; rw [hk1]; exact .k _
  | 1 => simp at hj2 hy; subst hj2; subst hy; exact hk2.of_bare
  | j' + 2 => simp at hj2
end
end Lf
end Go.Proofs.Ytgjoecocahpfhaa

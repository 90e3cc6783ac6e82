/- A part of the proof: texts joined. -/
import Derived.Lib.SliceRun
import Derived.Test.YtkbimhccaacobaaQ266690cc
namespace Go.Proofs.Ytkbimhccaacobaa
open Go.RowKit Rg Wm Ar
set_option maxRecDepth 100000
namespace Lf
theorem LM.buf1 {P : Program} {f : Nat} {args es : List V} {E sz n k : Nat} (hn : es.length = n) (h0 : 0 < n) (hb : ∀ e ∈ es, e.cells.length = sz ∧ ∀ c ∈ e.cells, ∃ l : List UInt8, c = .s none (l.map bK))
    (h : LM P f args [] fun o m => o = .ret (.s (some k) es) ∧ m = [(k, .r E sz n)]) : LM P f args [] fun o m => o = .ret (.w k n sz 0 n) ∧ m = [(k, .w E sz n es)] := by
  refine ⟨h.ok, fun g w vals h1 h2 h3 => Calls.mono (h.go g w vals h1 h2 h3) ?_⟩
  rintro e w' ⟨o, mo, g', ⟨rfl, rfl⟩, hev, hrel, hk, x, rfl, hr0⟩
  have hko := hrel.ob k _ (aget_self ..)
  cases hko with
  | @r _ _ _ c a hg hR =>
  obtain ⟨hp, ⟨xs, hown⟩, hfree⟩ := hR
  have hab : ∀ b, a = some b → w.heap.size ≤ b := fun b hb => by
    rcases hrel.wr k _ b 0 (aget_self ..) ⟨_, _, by rw [hg, hb]⟩ with h | ⟨i, m, hm, _⟩
    · exact h
    · cases hm
  have hlt : ∀ b, a = some b → b < w'.heap.size := fun b hb => (oRow_lt hown b (by simp [hb, Value.ownBlock])).2
  have hfl : (es.flatMap V.cells).length = n * sz := by rw [flat_cells fun e he => (hb e he).1, hn]
  have hxl := hown.1
  cases hr0 with
  | s0 ht => simp at hn; omega
  | se a' ht => simp at hn; omega
  | @s _ _ _ b off cap size xs' hn' hm' hp' hs' hx' hc' ht =>
  obtain ⟨a1, l1, c1, e1, e2, e3⟩ := ht k rfl
  rw [hg] at e1
  cases e1
  have hy2 : Value.slice (some ⟨b, off, none⟩) es.length cap = .slice (a.map fun b => ⟨b, 0, none⟩) n c := by
    rcases e3 hn with h | ⟨_, h, _⟩
    · exact h
    · omega
  injection hy2 with q1 q2 q3
  obtain ⟨rfl, rfl⟩ : a = some b ∧ off = 0 := by
    cases a with
    | none => cases q1
    | some a => simp at q1; exact ⟨by rw [q1.1], q1.2⟩
  have hat : ∀ (j : Nat) x, xs[j]? = some x → ∃ l : List UInt8, (es.flatMap V.cells)[j]? = some (.s none (l.map bK)) ∧ Rep w' g'.bare (.s none (l.map bK)) x := fun j x hj => by
    have hjl : j < (es.flatMap V.cells).length := by
      have := (List.getElem?_eq_some_iff.1 hj).1
      omega
    have hu := List.getElem?_eq_getElem hjl
    obtain ⟨e, he, hue⟩ := List.mem_flatMap.1 (List.getElem_mem hjl)
    obtain ⟨l, hl⟩ := (hb e he).2 _ hue
    rw [hl] at hu
    obtain ⟨p1, p2, p3⟩ := hx' j _ hu
    have h5 := oRow_cells hown (g := b) (by simp [Value.ownBlock]) j _ hj
    rw [Addr.add_lit] at h5
    rw [h5] at p3
    injection p3 with p3
    rw [p3]
    exact ⟨l, hu, hc' j _ hu⟩
  have hsl : ∀ (j : Nat) x, xs[j]? = some x → ∃ ad m cap, x = .slice ad m cap := fun j x hj => by
    obtain ⟨l, _, hr⟩ := hat j x hj
    generalize l.map bK = es' at hr
    cases hr with
    | s0 ht => exact ⟨_, _, _, rfl⟩
    | se a' ht => exact ⟨_, _, _, rfl⟩
    | s xs' hn hm hp hs hx hc ht => exact ⟨_, _, _, rfl⟩
  have hne : ∀ b', b' < w.heap.size → some b ≠ some b' := fun b' hb' e => by
    injection e with e
    have := hab b rfl
    omega
  have hone : ∀ {i : Nat} {m m0 : M}, aget [(k, m0)] i = some m → i = k ∧ m = m0 := fun {i m m0} h => by
    rw [aget_cons] at h
    split at h
    · rename_i e; cases h; exact ⟨e.symm, rfl⟩
    · cases h
  have hnone : ∀ {i : Nat} {m m0 : M}, aget [(k, m)] i = none → aget [(k, m0)] i = none := fun {i m m0} h => by
    rw [aget_cons] at h ⊢
    split at h
    · cases h
    · rename_i e; rw [if_neg e]; rfl
  subst hn
  have hR2 : RelM (lentF g [] w) (g'.off (some b)) [(k, .w E sz es.length es)] w' := by
    refine ⟨fun i m hi => ?_, fun i m b' o hi hf => ?_, fun i j m m' b' o hij hi hj => ?_, fun i hi => hrel.nbx i (hnone hi), fun i hi => hrel.nrw i (hnone hi), fun b' o hb' => ⟨hrel.fut b' o hb', fun e => ?_⟩, ⟨hrel.loc.tab, hrel.loc.bx, hrel.loc.rw⟩⟩
    · obtain ⟨rfl, rfl⟩ := hone hi
      refine .w (a := some b) (c := c) hg ⟨hp, fun e he => ⟨(hb e he).1, fun u hu => ?_⟩, ⟨xs, hown, fun j u x hu hx => ?_⟩, fun b' e o h => h.2 e⟩
      · obtain ⟨l, rfl⟩ := (hb e he).2 u hu; rfl
      · obtain ⟨l, hu', hr⟩ := hat j x hx
        rw [hu] at hu'
        cases hu'
        exact rep_off hown hfree hsl hr
    · obtain ⟨rfl, rfl⟩ := hone hi
      exact hrel.wr _ _ b' o (aget_self ..) hf
    · exact absurd ((hone hi).1.trans (hone hj).1.symm) hij
    · injection e with e
      have := hlt b rfl
      omega
  refine ⟨_, _, g'.off (some b), ⟨rfl, rfl⟩, ⟨hev.size, fun b' o hb' hs => ⟨⟨(hev.st b' o hb' hs).1, hne b' hb'⟩, (hev.st b' o hb' hs).2⟩, hev.bx, hev.rw⟩, hR2, ⟨hk.os, hk.tape, hk.output, hk.size, hk.blk, hk.cell, fun b' o hb hB hS => hk.S1 b' o hb hB hS.1, fun b' o hb hS => ⟨hk.S2 b' o hb hS, hne b' hb⟩, hk.cellS⟩, _, rfl, ?_⟩
  exact .w ⟨some b, es.length, c, hg, Nat.le_refl _, fun _ => ⟨by omega, by omega, fun _ => by simp⟩⟩
section
variable {P : Program} {o : Oper} {env : Env}
theorem flat_rep1 {zv : V} (h : zv.cells = [zv]) : ∀ n : Nat, (List.replicate n zv).flatMap V.cells = List.replicate n zv
  | 0 => rfl
  | n + 1 => by rw [List.replicate_succ, List.flatMap_cons, flat_rep1 h n, h]; rfl
theorem Does.clearW {T E i gen off n : Nat} {x : Operand} {es : List V} {zv : V} {z : Value} (X : TOk P) {ti ei : TI} (ho : o.op = .call { callee := .builtin .clear, args := #[x], argTypes := #[T] }) (hx : evo env x = some (.w i gen 1 off n)) (hT : aget X.tab T = some ti) (hd : ti.d = .sl E) (_hE : aget X.tab E = some ei) (_hsz : ei.size = 1) (hv : ∀ w, (zeroValue E).run P w = .ok z w) (hz : z.cells = #[z]) (h1 : z.oneCell' = true) (hzv : ∀ w g, Rep w g zv z) (hzc : zv.cells = [zv]) (hzo : zv.one = true) (hle : off + n ≤ es.length) :
    Does P o env (.t []) [(i, some (.w E 1 gen es), some (.w E 1 gen (splice es off (List.replicate n zv))))] := by
  refine ⟨fun F g a w mem h1' h2 h3 h4 _ K Q hK => ?_⟩
  have hi := h4 _ _ _ mem_one
  have hrx := h1' x (by simp [ho, Op.operands, Call.operands]) _ hx
  obtain ⟨ao, c, ad, e1, hB, hxx, e3, e4⟩ := rep_w h2 hi hrx
  unfold Oper.wp
  rcases Nat.eq_zero_or_pos n with h0 | h0
  · subst h0
    have hrun : (execOp a.eval o).run P w = .ok (.value (.tuple #[])) w := by
      cases ad <;> simp [execOp, ho, resolve, invoke, builtin, hxx, Builtin.clear_, run_underlying ((X.get hT).sl hd)]
    rw [hrun]
    refine hK _ g _ (Ev.refl g _) (h2.congr fun j => ?_) h3 (.t rfl fun j u x hu => by simp at hu)
    show aget mem j = aget ((i, _) :: mem) j
    simp only [aget_cons]
    split
    · rename_i e; subst e
      rw [show splice es off (List.replicate 0 zv) = es by simp [splice]]; exact hi
    · rfl
  · cases ao with
    | none => have := (buf_none hB).1; subst this; simp at hle; omega
    | some b =>
      have hbl := (buf_le hB).1
      have had := e4 (.inl (by omega))
      subst had
      have hcs : ∀ e ∈ List.replicate n zv, e.cells.length = 1 ∧ ∀ u ∈ e.cells, u.one = true := fun e he => by
        rw [List.eq_of_mem_replicate he, hzc]
        exact ⟨rfl, fun u hu => by rw [List.mem_singleton] at hu; rw [hu]; exact hzo⟩
      have hfl := flat_rep1 hzc n
      obtain ⟨k1, k2, k3, k4⟩ := h2.setW h3 (k := off) (ys := List.replicate n zv) (us := List.replicate n z) hi e1 (by simpa using hle) hcs (by simp) (fun j u x hu hxj => by
        rw [hfl] at hu
        have e5 := List.eq_of_mem_replicate (List.mem_of_getElem? hu)
        have e6 := List.eq_of_mem_replicate (List.mem_of_getElem? hxj)
        rw [e5, e6]; exact hzv _ _) (fun u hu => by rw [List.eq_of_mem_replicate hu]; exact h1) P
      rw [Nat.mul_one] at k1 k2 k3 k4
      have hst := Lib.run_clear_slice (P := P) w T E o.type z ((X.get hT).sl hd) hv hz h1 b off n (c - off) h0 (fun j hj => (k1 j (by simpa using hj)).1) (fun j hj => (k1 j (by simpa using hj)).2)
      have hrun : (execOp a.eval o).run P w = .ok (.value (.tuple #[])) (w.setCells b off (List.replicate n z)) := by
        rw [Nat.mul_one] at hxx
        simp [execOp, ho, resolve, invoke, builtin, hxx, hst]
      rw [hrun]
      exact hK _ g _ k2 k3 k4 (.t rfl fun j u x hu => by simp at hu)
end
end Lf
open Go.RowKit Rg Wm Ar
set_option linter.unusedVariables false
set_option maxRecDepth 100000
namespace Lf
open Tr Ro
abbrev isG (gone : List UInt8) (c : List UInt8) : Bool := decide (c = gone)
abbrev kept (gone : List UInt8) (L : List (List UInt8)) : List (List UInt8) := L.filter fun c => !isG gone c
abbrev fnG : V := .f (.func 23) [] [.p 1000 0]
def delM (gone : List UInt8) (g : Nat) (L : List (List UInt8)) : Mem := [(1000, .b [bV gone]), (1001, .w 22 1 g (L.map bV))]
def firstG (gone : List UInt8) (L : List (List UInt8)) : Option Nat := L.findIdx? (isG gone)
theorem firstG_none {gone : List UInt8} {L : List (List UInt8)} (h : ∀ j, j < L.length → L.getD j default ≠ gone) : firstG gone L = none ∧ kept gone L = L := by
  have hm : ∀ x ∈ L, ¬ x = gone := fun x hx e => by
    obtain ⟨i, hi, ei⟩ := List.mem_iff_getElem.1 hx
    refine h i hi ?_
    rw [List.getD_eq_getElem?_getD, List.getElem?_eq_getElem hi, Option.getD_some, ei, e]
  refine ⟨?_, ?_⟩
  · unfold firstG
    rw [List.findIdx?_eq_none_iff]
    intro x hx
    exact decide_eq_false (hm x hx)
  · rw [List.filter_eq_self]
    intro x hx
    rw [show isG gone x = false from decide_eq_false (hm x hx)]; rfl
theorem kept_take {gone : List UInt8} {L : List (List UInt8)} {j : Nat} (h : j < L.length) : kept gone (L.take (j + 1)) = kept gone (L.take j) ++ (if L.getD j default = gone then [] else [L.getD j default]) := by
  rw [List.take_succ_eq_append_getElem h]
  unfold kept
  rw [List.filter_append, List.getD_eq_getElem?_getD, List.getElem?_eq_getElem h, Option.getD_some]
  congr 1
  by_cases e : L[j] = gone
  · rw [if_pos e, List.filter_cons_of_neg (by simp [isG, e]), List.filter_nil]
  · rw [if_neg e, List.filter_cons_of_pos (by simp [isG, e]), List.filter_nil]
theorem kept_first {gone : List UInt8} {L : List (List UInt8)} {i : Nat} (hi : i < L.length) (h : ∀ j, j < i → L.getD j default ≠ gone) : kept gone (L.take i) = L.take i := by
  refine (firstG_none (gone := gone) (L := L.take i) fun j hj => ?_).2
  rw [List.length_take] at hj
  rw [take_getD (by omega)]
  exact h j (by omega)
namespace Rw
set_option maxHeartbeats 4000000 in
theorem isG_ (c gone : List UInt8) : LM Try.prog 23 [bV c, .p 1000 0] [(1000, .b [bV gone])] fun o m => o = .ret (.k (.bool (isG gone c))) ∧ m = [(1000, .b [bV gone])] := by
  have hs : arithS .eql ⟨c.toArray⟩ ⟨gone.toArray⟩ = some (.bool (isG gone c)) := Lf.eqS rfl
  generalize isG gone c = b at *
  refine LM.enter tt Try.func23 rfl rfl rfl (by kernel_rfl) rfl rfl rfl (fun o mo h => by rw [h.2]; rfl) fun F _ => ?_
  exact wk trueW trueW trueW
set_option maxHeartbeats 8000000 in
theorem Index_ (gone : List UInt8) (L : List (List UInt8)) (g : Nat) (hl : L.length < 100000000) :
    (∀ j, j < L.length → L.getD j default ≠ gone) ∧ LM Try.prog 53 [.w 1001 g 1 0 L.length, fnG] (delM gone g L) (fun o m => o = .ret (.k (.int .i64 (-1))) ∧ m = delM gone g L) ∨
    ∃ i, i < L.length ∧ L.getD i default = gone ∧ (∀ j, j < i → L.getD j default ≠ gone) ∧ LM Try.prog 53 [.w 1001 g 1 0 L.length, fnG] (delM gone g L) (fun o m => o = .ret (.k (.int .i64 (i : Int))) ∧ m = delM gone g L) := by
  have walk : ∀ r : Int, (r = -1 ∧ (∀ j, j < L.length → L.getD j default ≠ gone) ∨ ∃ i : Nat, r = (i : Int) ∧ i < L.length ∧ L.getD i default = gone ∧ ∀ j, j < i → L.getD j default ≠ gone) →
      LM Try.prog 53 [.w 1001 g 1 0 L.length, fnG] (delM gone g L) (fun o m => o = .ret (.k (.int .i64 r)) ∧ m = delM gone g L) := by
    intro r hr
    unfold delM
    refine LM.enter tt Try.func53 rfl rfl rfl (by kernel_rfl) rfl rfl rfl (fun o mo h => by rw [h.2]; rfl) fun F _ => ?_
    refine wk ?_ trueW trueW
    refine LC.loopN (fun i => [(0, .w 1001 g 1 0 L.length), (1, fnG), (7, .k (.int .i64 ((L.length : Nat) : Int))), (8, .k (.int .i64 ((i : Nat) : Int)))]) (fun i => [(1000, .b [bV gone]), (1001, .w 22 1 g (L.map bV))]) (fun i => i ≤ L.length ∧ ∀ j, j < i → L.getD j default ≠ gone) ((L.length - ·)) (0) ⟨by omega, fun j hj => by omega⟩ ⟨rfl, rfl, rfl, rfl, trivial⟩ ⟨rfl, rfl, trivial⟩ rfl rfW rfW ?_
    rintro i ⟨hi, hall⟩
    rcases Nat.lt_or_ge i L.length with h | h
    · have c1 := isG_ (L.getD i default) gone
      by_cases e : L.getD i default = gone
      · rw [show isG gone (L.getD i default) = true from decide_eq_true e] at c1
        have hri : r = (i : Int) := by
          rcases hr with ⟨_, h2⟩ | ⟨k, rfl, h1, h2, h3⟩
          · exact absurd e (h2 i h)
          · rcases Nat.lt_trichotomy i k with h4 | h4 | h4
            · exact absurd e (h3 i h4)
            · rw [h4]
            · exact absurd h2 (hall k h4)
        subst hri
        clear hr hall e
        exact wk trueW trueW trueW
      · rw [show isG gone (L.getD i default) = false from decide_eq_false e] at c1
        have hok : i + 1 ≤ L.length ∧ ∀ j, j < i + 1 → L.getD j default ≠ gone := ⟨h, fun j hj => by
          by_cases e2 : j = i
          · subst e2; exact e
          · exact hall j (by omega)⟩
        clear hr hall e
        exact wk trueW trueW trueW
    · have hri : r = -1 := by
        rcases hr with ⟨h, _⟩ | ⟨k, rfl, h1, h2, h3⟩
        · exact h
        · exact absurd h2 (hall k (by omega))
      subst hri
      clear hr hall
      exact wk trueW trueW trueW
  by_cases h : ∀ j, j < L.length → L.getD j default ≠ gone
  · exact .inl ⟨h, walk (-1) (.inl ⟨rfl, h⟩)⟩
  · have : ∃ i, i < L.length ∧ L.getD i default = gone ∧ ∀ j, j < i → L.getD j default ≠ gone := by
      simp only [Classical.not_forall, Classical.not_not] at h
      obtain ⟨j, hj, e⟩ := h
      induction j using Nat.strongRecOn with
      | _ j ih =>
        by_cases h2 : ∀ t, t < j → L.getD t default ≠ gone
        · exact ⟨j, hj, e, h2⟩
        · simp only [Classical.not_forall, Classical.not_not] at h2
          obtain ⟨t, ht, e2⟩ := h2
          exact ih t ht (by omega) e2
    obtain ⟨i, h1, h2, h3⟩ := this
    exact .inr ⟨i, h1, h2, h3, walk _ (.inr ⟨i, rfl, h1, h2, h3⟩)⟩
end Rw
end Lf
open Go.RowKit Rg Wm Ar
set_option linter.unusedVariables false
set_option maxRecDepth 100000
namespace Lf
open Tr Ro
theorem splice_bV {S : List (List UInt8)} {i n : Nat} (h : i + n = S.length) : splice (S.map bV) i (List.replicate n (bV [])) = (S.take i ++ List.replicate n []).map bV := by
  unfold splice
  rw [List.length_replicate, List.drop_of_length_le (by rw [List.length_map]; omega), List.append_nil, List.map_append, List.map_take, List.map_replicate]
namespace Rw
set_option maxHeartbeats 8000000 in
theorem Delete1 (gone : List UInt8) (L : List (List UInt8)) (g : Nat) (hl : L.length < 100000000) :
    LM Try.prog 21 [.w 1001 g 1 0 L.length, fnG] (delM gone g L) (fun o m => o = .ret (.s none ((kept gone L).map bV)) ∧ m = [(1000, .b [bV gone]), (1001, .x)]) := by
  have hfz : FrzAt 4 1001 := ⟨⟩
  rcases Index_ gone L g hl with ⟨hn, c1⟩ | ⟨i0, hi0, he0, hn, c1⟩
  · rw [(firstG_none hn).2]
    clear hn
    unfold delM at c1 ⊢
    have hml : (L.map bV).length = L.length := List.length_map _
    refine LM.enter tt Try.func21 rfl rfl rfl (by kernel_rfl) rfl rfl rfl (fun o mo h => by rw [h.2]; rfl) fun F _ => ?_
    exact wk trueW trueW trueW
  · unfold delM at c1 ⊢
    have hk0 : kept gone (L.take (i0 + 1)) = L.take i0 := by rw [kept_take hi0, if_pos he0, List.append_nil, kept_first hi0 hn]
    refine LM.enter tt Try.func21 rfl rfl rfl (by kernel_rfl) rfl rfl rfl (fun o mo h => by rw [h.2]; rfl) fun F _ => ?_
    refine wk ?_ trueW trueW
    refine LC.loop5 (fun j i S (_u3 : Unit) (_u4 : Unit) => [(0, .w 1001 g 1 0 L.length), (1, fnG), (5, .k (.int .i64 ((i : Nat) : Int))), (6, .k (.int .i64 ((j : Nat) : Int)))]) (fun j i S (_u3 : Unit) (_u4 : Unit) => [(1000, .b [bV gone]), (1001, .w 22 1 g (S.map bV))]) (fun j i S (_u3 : Unit) (_u4 : Unit) => j ≤ L.length ∧ i < j ∧ S.length = L.length ∧ S.take i = kept gone (L.take j) ∧ (∀ t, j ≤ t → S.getD t default = L.getD t default)) ((L.length - ·)) (i0 + 1) (i0) (L) () () ⟨by omega, by omega, rfl, hk0.symm, fun t ht => rfl⟩ ⟨rfl, rfl, rfl, rfl, trivial⟩ ⟨rfl, rfl, trivial⟩ rfl rfW rfW ?_
    rintro j i S _ _ ⟨hj, hi, hSl, hSt, hSr⟩
    rcases Nat.lt_or_ge j L.length with h | h
    · have hg := hSr j (Nat.le_refl _)
      have c2 := isG_ (S.getD j default) gone
      have hkt := kept_take (gone := gone) h
      by_cases e : L.getD j default = gone
      · rw [if_pos e, List.append_nil] at hkt
        rw [show isG gone (S.getD j default) = true from decide_eq_true (hg.trans e)] at c2
        have hok : j + 1 ≤ L.length ∧ i < j + 1 ∧ S.length = L.length ∧ S.take i = kept gone (L.take (j + 1)) ∧ (∀ t, j + 1 ≤ t → S.getD t default = L.getD t default) := ⟨h, by omega, hSl, by rw [hkt]; exact hSt, fun t ht => hSr t (by omega)⟩
        clear c1 hSt hSr hkt hn hg e
        exact wk trueW trueW trueW
      · rw [if_neg e] at hkt
        rw [show isG gone (S.getD j default) = false from decide_eq_false (fun e2 => e (hg.symm.trans e2))] at c2
        have hok : j + 1 ≤ L.length ∧ i + 1 < j + 1 ∧ (S.set i (S.getD j default)).length = L.length ∧ (S.set i (S.getD j default)).take (i + 1) = kept gone (L.take (j + 1)) ∧ (∀ t, j + 1 ≤ t → (S.set i (S.getD j default)).getD t default = L.getD t default) := ⟨h, by omega, by rw [List.length_set]; exact hSl, by
          rw [hkt, ← hSt, hg]
          rw [List.take_succ_eq_append_getElem (by rw [List.length_set]; omega), List.getElem_set_self, List.take_set_of_le (Nat.le_refl _)], fun t ht => by
          rw [List.getD_eq_getElem?_getD, List.getElem?_set_ne (by omega), ← List.getD_eq_getElem?_getD]
          exact hSr t (by omega)⟩
        clear c1 hSt hSr hkt hn hg e
        exact wk trueW trueW trueW
    · obtain rfl : j = L.length := by omega
      rw [List.take_length] at hSt
      have hsp : splice (S.map bV) i (List.replicate (L.length - i) (bV [])) = (S.take i ++ List.replicate (L.length - i) []).map bV := splice_bV (by omega)
      have hfin : ((S.take i ++ List.replicate (L.length - i) []).drop 0).take i = kept gone L := by
        rw [← hSt, List.drop_zero, List.take_left' (by rw [List.length_take]; omega)]
      have hml : ((S.take i ++ List.replicate (L.length - i) []).map bV).length = L.length := by
        rw [List.length_map, List.length_append, List.length_take, List.length_replicate]; omega
      clear c1 hSr hn
      refine wk ?_ trueW trueW
      refine DR.ss rfl rfl (Does.clearW (es := S.map bV) (n := L.length - i) (zv := bV []) (z := .slice none 0 0) tt (by with_reducible exact rfl) rfl rfl rfl rfl rfl (fun w => by kernel_rfl) rfl rfl (fun w g => rep_e0) rfl rfl (by rw [List.length_map]; omega)) rfl ?_
      rw [hsp]
      generalize S.take i ++ List.replicate (L.length - i) [] = S2 at *
      rw [← hfin]
      exact wk trueW trueW trueW
end Rw
end Lf
end Go.Proofs.Ytkbimhccaacobaa

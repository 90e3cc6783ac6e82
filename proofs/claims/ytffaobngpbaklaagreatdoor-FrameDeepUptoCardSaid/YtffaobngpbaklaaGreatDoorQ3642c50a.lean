/- A part of the proof: texts joined. -/
import Derived.Laws.Externs
import Derived.Lib.Bytealg
import Derived.Test.YtffaobngpbaklaaGreatDoorQ356eed96
set_option linter.unusedVariables false
set_option linter.unusedSimpArgs false
namespace Go.Proofs.YtffaobngpbaklaaGreatDoor
open Go.RowKit Rg Wm Ar
set_option linter.unusedVariables false
set_option maxRecDepth 100000
namespace Lf
open Fm FrP Fw
namespace Fw
theorem run_loadBytes {P : Program} {w : World} {b : Nat} : ∀ (l : List UInt8) (o : Nat) (acc : List UInt8), (∀ j u, (l.map Rp.byteV)[j]? = some u → w.cell? ⟨b, o + j, none⟩ = some u) → (Extern.Bytes.loadBytes ⟨b, o, none⟩ l.length ⟨acc.toArray⟩).run P w = .ok ⟨(acc ++ l).toArray⟩ w
 | [], o, acc, _ => by rw [List.append_nil]; rfl
 | x :: r, o, acc, h => by
  have h0 := h 0 (Rp.byteV x) rfl
  rw [Nat.add_zero] at h0
  have ih := run_loadBytes (P := P) (w := w) (b := b) r (o + 1) (acc ++ [x]) fun j u hj => by
   have := h (j + 1) u (by simpa using hj)
   rw [show o + 1 + j = o + (j + 1) from by omega]
   exact this
  rw [List.length_cons]
  unfold Extern.Bytes.loadBytes
  rw [Sem.run_bind, run_load, h0]
  simp only [Result.andThen, Rp.byteV]
  have e1 : (ByteArray.mk acc.toArray).push ((x.toNat : Int).toNat.toUInt8) = ⟨(acc ++ [x]).toArray⟩ := by
   have : ((x.toNat : Int).toNat.toUInt8) = x := by simp
   rw [this]
   simp [ByteArray.push]
  rw [e1]
  have e2 : acc ++ x :: r = (acc ++ [x]) ++ r := by simp
  rw [e2]
  exact ih
theorem run_bytesOf {P : Program} {w : World} {B n c : Nat} {a : Option Addr} {l : List UInt8} (h : Rp.Sl w B 1 a n c (l.map Rp.byteV)) : (Extern.Bytes.bytesOf (.slice a n c)).run P w = .ok ⟨l.toArray⟩ w := by
 have hn : l.length = n := h.len
 obtain ⟨_, h2, _, h4, h5⟩ := h
 cases a with
 | none =>
  have := h4 rfl
  obtain rfl : l = [] := List.eq_nil_of_length_eq_zero (by omega)
  rfl
 | some a =>
  rcases Nat.eq_zero_or_pos n with h0 | h0
  ·obtain rfl : l = [] := List.eq_nil_of_length_eq_zero (by omega)
   subst h0
   rfl
  ·obtain ⟨b, o, e, _, hc⟩ := h5 h0
   cases e
   subst hn
   exact run_loadBytes (P := P) (w := w) l o [] hc
theorem rep_bytes {w : World} {g : Gh} {t : Option Nat} {l : List UInt8} {y : Value} (hr0 : Rep w g (.s t (l.map bK)) y) : ∃ a0 n0 c0, y = .slice a0 n0 c0 ∧ Rp.Sl w w.heap.size 1 a0 n0 c0 (l.map Rp.byteV) := by
 have hcell : ∀ e ∈ l.map bK, e.cells.length = 1 := fun e he => by obtain ⟨z, _, rfl⟩ := List.mem_map.1 he; rfl
 generalize hes : l.map bK = es at hr0
 cases hr0 with
 | s0 =>
  have : l = [] := by simpa using hes
  subst this
  exact ⟨none, 0, 0, rfl, rfl, Nat.le_refl _, by simp [maxLen], fun _ => rfl, fun h => by omega⟩
 | se a1 =>
  have : l = [] := by simpa using hes
  subst this
  exact ⟨some a1, 0, 0, rfl, rfl, Nat.le_refl _, by simp [maxLen], (fun h => by cases h), fun h => by omega⟩
 | @s _ _ _ b off cap size xs hn hm hp hsz hxx hc ht =>
  subst hes
  refine ⟨_, _, cap, rfl, by simp, hn, hm, (fun h => by cases h), fun _ => ⟨b, off, rfl, ?_, fun j u hj => ?_⟩⟩
  ·rename_i hpos
   have : (l.map bK).flatMap V.cells ≠ [] := by
    cases l with
    | nil => simp at hpos
    | cons a r => simp [bK, V.cells]
   obtain ⟨u, r, hur⟩ := List.exists_cons_of_ne_nil this
   exact (hxx 0 u (by rw [hur]; rfl)).1
  ·rw [List.getElem?_map] at hj
   obtain ⟨z, hz, rfl⟩ := Option.map_eq_some_iff.1 hj
   have hf : ((l.map bK).flatMap V.cells)[j]? = some (bK z) := by
    have := flat_get hcell (n := j) (j := 0) (e := bK z) (u := bK z) (by rw [List.getElem?_map, hz]; rfl) rfl
    simpa using this
   rw [(hxx j _ hf).2.2, rep_k (hc j _ hf)]
   rfl
theorem run_indexBytes {P : Program} {w : World} {B n c : Nat} {a : Option Addr} {l : List UInt8} (z : Int) (h : Rp.Sl w B 1 a n c (l.map Rp.byteV)) :
  (Extern.BytealgIndexByte.indexByte #[.slice a n c, .int .u8 z]).run P w = (Extern.BytealgIndexByte.indexByte #[.string ⟨l.toArray⟩, .int .u8 z]).run P w := by
 have e1 : ∀ v u, Extern.BytealgIndexByte.indexByte #[v, u] = (Extern.Bytes.bytesOf v >>= fun b => Extern.BytealgIndexByte.indexByte #[.string b, u]) := fun v u => rfl
 rw [e1, Sem.run_bind, run_bytesOf h]
 rfl
theorem IndexByte0 {a : List UInt8} {n c B : Nat} {p : Option Addr} (w : World) (h : Rp.Sl w B 1 p n c (a.map Rp.byteV)) :
  Calls Tryz.prog 18 #[.slice p n c, .int .u8 90] w fun e w' => e = .returned (.int .i64 (Lib.indexByte a 90)) ∧ Ext w w' := by
 go_enter Tryz.func18, Tryz.ntmps18
 go_wp2
 rw [run_callFunc_extern (P := Tryz.prog) (f := 26) (fn := Tryz.f26) (e := Extern.BytealgIndexByte.indexByte) (by kernel_rfl) (by kernel_rfl) (by kernel_rfl) (by kernel_rfl) (by kernel_rfl), run_indexBytes 90 h, Lib.run_indexByteString]
 simp only [Result.andThen]
 rw [Oper.upon_value]
 go_wp2
 go_ret
 exact ⟨rfl, Ext.refl _⟩
theorem IndexByte (a : List UInt8) : LF Tryz.prog 18 [.s none (a.map bK), .k (.int .u8 90)] (fun _ => .k (.int .i64 (Lib.indexByte a 90))) none := by
 refine ⟨by kernel_rfl, fun g w vals hm hl hr => ?_⟩
 have h2 : vals.size = 2 := hl.symm
 have hv : vals = #[vals[0], vals[1]] := by
  apply Array.ext
  ·simp [h2]
  ·intro i h1 h2
   match i with
   | 0 => rfl
   | 1 => rfl
   | i + 2 => omega
 obtain ⟨p, n, c, e1, s1⟩ := rep_bytes (hr 0 _ vals[0] rfl (Array.getElem?_eq_getElem (by omega)))
 have e2 := rep_k (hr 1 _ vals[1] rfl (Array.getElem?_eq_getElem (by omega)))
 rw [hv, e1, e2]
 refine (IndexByte0 w s1).mono fun e w' ⟨he, hx⟩ => ⟨.ret (.k (.int .i64 (Lib.indexByte a 90))), [], g, ⟨rfl, rfl⟩, ?_⟩
 obtain ⟨k1, k2, k3⟩ := hm.ext (g' := g) ⟨rfl, rfl, rfl, Nat.le_refl _, fun _ _ _ => rfl, fun _ _ _ _ => ⟨rfl, rfl⟩, fun _ _ _ _ h => h, fun _ _ _ h => h, fun _ _ _ _ => rfl⟩ hx (fun _ _ _ => Iff.rfl) rfl rfl (fun b o hb => hm.fut b o (Nat.le_trans hx.size hb))
 exact ⟨k1, k2, k3, _, he, .k _⟩
end Fw
theorem index_neg : ∀ (l : List UInt8), Lib.indexByte l 90 < 0 → 90 ∉ l
 | [], _ => List.not_mem_nil
 | x :: l, h => by
  have hge := Lib.indexByte_ge l 90
  by_cases hx : x = 90
  ·subst hx
   simp [Lib.indexByte] at h
  ·have hb : (x == 90) = false := by rw [beq_eq_false_iff_ne]; exact hx
   have ih := index_neg l
   simp only [Lib.indexByte, hb, Bool.false_eq_true, if_false] at h
   intro hm
   rcases List.mem_cons.1 hm with e | hm
   ·exact hx e.symm
   ·by_cases h1 : Lib.indexByte l 90 < 0
    ·exact ih h1 hm
    ·have e1 : (Lib.indexByte l 90 == -1) = false := by rw [beq_eq_false_iff_ne]; omega
     simp only [e1, Bool.false_eq_true, if_false] at h
     omega
theorem tells_same {c inp : List UInt8} {n : Nat} (hn : n ≠ 90) (s : MS) (g g' : Nat) : tells c inp n s g = tells c inp n s g' := by
 unfold tells
 rw [if_neg hn, if_neg hn]
theorem eff_same {c inp : List UInt8} {n : Nat} (hn : n ≠ 90) (s : MS) (g g' : Nat) : eff c inp n s g = eff c inp n s g' := by
 unfold eff
 rw [tells_same hn s g g']
theorem act_same {c inp : List UInt8} (hc : 90 ∉ c) (s : MS) (g g' : Nat) : Fm.act c inp s g = Fm.act c inp s g' := by
  unfold Fm.act
  by_cases hp : c.length ≤ s.pc
  · rw [if_pos hp, if_pos hp]
  · have hn : (c.getD s.pc default).toNat ≠ 90 := fun e => hc (by
      have h1 : c.getD s.pc default = 90 := UInt8.toNat_inj.1 e
      rw [← h1, List.getD_eq_getElem?_getD, List.getElem?_eq_getElem (by omega)]
      exact List.getElem_mem _)
    rw [eff_same hn s (g - _) (g' - Pr.opN (c.getD s.pc default).toNat)]
theorem fine_touch {s : MS} {a n mul : Nat} {k : MS → FrP.Act MS} (hk : ∀ s, Fine 14 (k s)) : Fine 14 (touch s a n mul k) := by
 unfold touch
 split
 ·exact ⟨by decide, by decide⟩
 ·exact hk _
theorem fine_jmp (c : List UInt8) (s : MS) (t : Nat) : Fine 14 (jmp c s t) := by
 unfold jmp
 split
 ·exact trivial
 ·exact ⟨by decide, by decide⟩
theorem fine_eff (c inp : List UInt8) (n : Nat) (s : MS) (g : Nat) : Fine 14 (eff c inp n s g) := by
 unfold eff
 have hn : ∀ {p : Prop} [Decidable p] {a b : FrP.Act MS}, Fine 14 a → Fine 14 b → Fine 14 (if p then a else b) := fun ha hb => by split <;> assumption
 repeat' apply hn
 all_goals repeat' split
 all_goals first | exact trivial | exact ⟨by decide, by decide⟩ | exact fine_jmp _ _ _ | (refine fine_touch fun _ => ?_; exact trivial)
theorem fine_act (c inp : List UInt8) (s : MS) (g : Nat) : Fine 14 (Fm.act c inp s g) := by
 unfold Fm.act
 repeat' split
 ·exact trivial
 ·exact ⟨by decide, by decide⟩
 ·exact ⟨by decide, by decide⟩
 ·exact fine_eff _ _ _ _ _
namespace Fw
set_option maxHeartbeats 4000000 in
theorem FrameLess (c inp : List UInt8) (g m : Nat) (hcl : c.length < 100000000) (hi : inp.length < 1073741824) (hg : g < 18446744073709551616) (hm : m < 18446744073709551616) : LF Tryz.prog 6 [.s none (c.map bK), .s none (inp.map bK), uK g, uK m] (fun _ => .k (.bool true)) none := by
 obtain ⟨r, hr⟩ := run_ex c inp g
 have c1 := alive16
 have c2 := Run c inp g hcl hi hg r hr
 have c3 := IndexByte c
 have hge := Lib.indexByte_ge c 90
 obtain ⟨q1, q2⟩ := gas_law (by decide) (by decide) hr
 by_cases h1 : r.err = 0 ∨ r.err = 14
 ·by_cases h4 : 0 ≤ Lib.indexByte c 90
  ·obtain ⟨e, gs, out⟩ := r
   simp only at *
   clear hr q2
   generalize Lib.indexByte c 90 = ix at *
   rcases h1 with rfl | rfl
   ·refine LFx.mk' tt Tryz.func6 rfl rfl rfl (by kernel_rfl) rfl rfl fun F => ?_
    exact wk trueW trueW trueW
   ·refine LFx.mk' tt Tryz.func6 rfl rfl rfl (by kernel_rfl) rfl rfl fun F => ?_
    exact wk trueW trueW trueW
  by_cases h5 : m < g - r.gas
  ·have hc := index_neg c (by omega)
   have hr2 := less_law (act_same hc) (fine_act c inp) ⟨by decide, by decide⟩ hr h1 h5
   have c4 := Run c inp m hcl hi hm _ hr2
   obtain ⟨e, gs, out⟩ := r
   simp only at *
   clear hr hr2 q2 hc
   have hw : IntKind.u64.wrap ((g : Int) - (gs : Int)) = ((g - gs : Nat) : Int) := by rw [wrap_u64 (by omega)]; omega
   generalize Lib.indexByte c 90 = ix at *
   rcases h1 with rfl | rfl
   ·refine LFx.mk' tt Tryz.func6 rfl rfl rfl (by kernel_rfl) rfl rfl fun F => ?_
    exact wk trueW trueW trueW
   ·refine LFx.mk' tt Tryz.func6 rfl rfl rfl (by kernel_rfl) rfl rfl fun F => ?_
    exact wk trueW trueW trueW
  ·obtain ⟨e, gs, out⟩ := r
   simp only at *
   clear hr q2
   have hw : IntKind.u64.wrap ((g : Int) - (gs : Int)) = ((g - gs : Nat) : Int) := by rw [wrap_u64 (by omega)]; omega
   generalize Lib.indexByte c 90 = ix at *
   rcases h1 with rfl | rfl
   ·refine LFx.mk' tt Tryz.func6 rfl rfl rfl (by kernel_rfl) rfl rfl fun F => ?_
    exact wk trueW trueW trueW
   ·refine LFx.mk' tt Tryz.func6 rfl rfl rfl (by kernel_rfl) rfl rfl fun F => ?_
    exact wk trueW trueW trueW
 ·obtain ⟨e, gs, out⟩ := r
  simp only at *
  have e0 : ¬ e = 0 := fun k => h1 (.inl k)
  have e1 : ¬ e = 14 := fun k => h1 (.inr k)
  clear hr q2 h1
  generalize Lib.indexByte c 90 = ix at *
  refine LFx.mk' tt Tryz.func6 rfl rfl rfl (by kernel_rfl) rfl rfl fun F => ?_
  exact wk trueW trueW trueW
end Fw
end Lf
open Go.RowKit Rg Rp Go.WideShapes Go.ChangeShapes
namespace Lf
def RO (W : World) : List V → List Value → Prop
 | [], [] => True
 | u :: us, c :: cs => (u.one = true ∧ Rep W allS u c) ∧ RO W us cs
 | _, _ => False
theorem RO.append {W : World} : ∀ {us : List V} {cs : List Value} {vs : List V} {ds : List Value}, RO W us cs → RO W vs ds → RO W (us ++ vs) (cs ++ ds)
 | [], [], _, _, _, h => h
 | _u :: _us, _c :: _cs, _, _, h, k => ⟨h.1, RO.append h.2 k⟩
 | [], _ :: _, _, _, h, _ => h.elim
 | _ :: _, [], _, _, h, _ => h.elim
theorem RO.spec {W : World} : ∀ {us : List V} {cs : List Value}, RO W us cs → us.length = cs.length ∧ ∀ (j : Nat) u c, us[j]? = some u → cs[j]? = some c → u.one = true ∧ Rep W allS u c
 | [], [], _ => ⟨rfl, fun j u c h => by simp at h⟩
 | u :: us, c :: cs, h => by
  obtain ⟨h1, h2⟩ := RO.spec h.2
  refine ⟨by simp [h1], fun j a b ha hb => ?_⟩
  cases j with
  | zero => simp at ha hb; subst ha; subst hb; exact h.1
  | succ j => simp at ha hb; exact h2 j a b ha hb
 | [], _ :: _, h => h.elim
 | _ :: _, [], h => h.elim
theorem RO.flatten {W : World} : ∀ {uss : List (List V)} {css : List (List Value)}, uss.length = css.length → (∀ (j : Nat) us cs, uss[j]? = some us → css[j]? = some cs → RO W us cs) → RO W uss.flatten css.flatten
 | [], [], _, _ => trivial
 | us :: uss, cs :: css, hl, h => by
  rw [List.flatten_cons, List.flatten_cons]
  exact (h 0 us cs rfl rfl).append (RO.flatten (by simpa using hl) fun j a b ha hb => h (j + 1) a b (by simpa using ha) (by simpa using hb))
 | [], _ :: _, hl, _ => by simp at hl
 | _ :: _, [], hl, _ => by simp at hl
theorem mapM_some {α β : Type} {f : α → Option β} : ∀ {l : List α} {r : List β}, l.mapM f = some r → r.length = l.length ∧ ∀ (j : Nat) a, l[j]? = some a → ∃ b, r[j]? = some b ∧ f a = some b
 | [], r, h => by simp at h; subst h; simp
 | a :: l, r, h => by
  simp only [List.mapM_cons, Option.bind_eq_bind, Option.pure_def] at h
  obtain ⟨b, hb, h⟩ := Option.bind_eq_some_iff.1 h
  obtain ⟨bs, hbs, h⟩ := Option.bind_eq_some_iff.1 h
  cases h
  obtain ⟨h1, h2⟩ := mapM_some hbs
  refine ⟨by simp [h1], fun j x hj => ?_⟩
  cases j with
  | zero => simp at hj; subst hj; exact ⟨b, rfl, hb⟩
  | succ j => simp at hj; exact h2 j x hj
theorem list_choose {α : Type} {p : Nat → α → Prop} : ∀ (n : Nat), (∀ j, j < n → ∃ x, p j x) → ∃ xs : List α, xs.length = n ∧ ∀ j x, xs[j]? = some x → p j x
 | 0, _ => ⟨[], rfl, by simp⟩
 | n + 1, h => by
  obtain ⟨xs, hl, hx⟩ := list_choose n fun j hj => h j (by omega)
  obtain ⟨x, hp⟩ := h n (by omega)
  refine ⟨xs ++ [x], by simp [hl], fun j y hj => ?_⟩
  rcases Nat.lt_or_ge j xs.length with hlt | hge
  ·rw [List.getElem?_append_left hlt] at hj; exact hx j y hj
  ·rw [List.getElem?_append_right hge] at hj
   have : j - xs.length = 0 := by
    rcases Nat.eq_zero_or_pos (j - xs.length) with h0 | h0
    ·exact h0
    ·rw [List.getElem?_eq_none (by simp; omega)] at hj; cases hj
   rw [this] at hj
   simp at hj; subst hj
   obtain rfl : j = n := by omega
   exact hp
theorem range_flatten {s : Nat} : ∀ {n : Nat} {cs : List Value}, cs.length = n * s → ((List.range n).map fun i => (cs.drop (i * s)).take s).flatten = cs
 | 0, cs, h => by simp at h; subst h; rfl
 | n + 1, cs, h => by
  rw [List.range_succ_eq_map, List.map_cons, List.flatten_cons, List.map_map, Nat.zero_mul, List.drop_zero]
  have e := range_flatten (s := s) (n := n) (cs := cs.drop s) (by rw [List.length_drop, h, Nat.succ_mul]; omega)
  have e2 : ((List.range n).map ((fun i => (cs.drop (i * s)).take s) ∘ Nat.succ)) = (List.range n).map fun i => ((cs.drop s).drop (i * s)).take s := by
   refine List.map_congr_left fun i _ => ?_
   simp only [Function.comp, List.drop_drop, Nat.succ_mul]
   rw [Nat.add_comm]
  rw [e2, e]
  exact List.take_append_drop _ _
theorem flat_inv {α : Type} {f : α → List V} {k : Nat} (hk : 0 < k) : ∀ {l : List α} {J : Nat} {u : V}, (∀ a ∈ l, (f a).length = k) → (l.flatMap f)[J]? = some u → ∃ a, l[J / k]? = some a ∧ (f a)[J % k]? = some u
 | [], J, u, _, h => by simp at h
 | a :: l, J, u, hf, h => by
  rw [List.flatMap_cons] at h
  have ha := hf a (by simp)
  rcases Nat.lt_or_ge J k with hlt | hge
  ·rw [List.getElem?_append_left (by omega)] at h
   exact ⟨a, by rw [Nat.div_eq_of_lt hlt]; rfl, by rw [Nat.mod_eq_of_lt hlt]; exact h⟩
  ·rw [List.getElem?_append_right (by omega), ha] at h
   obtain ⟨b, h1, h2⟩ := flat_inv hk (fun a ha => hf a (by simp [ha])) h
   obtain ⟨J', rfl⟩ : ∃ J', J = J' + k := ⟨J - k, by omega⟩
   rw [Nat.add_sub_cancel] at h1 h2
   exact ⟨b, by rw [Nat.add_div_right _ hk]; exact h1, by rw [Nat.add_mod_right]; exact h2⟩
theorem sum_le {α β : Type} {f : α → Nat} {g : β → Nat} : ∀ {l : List α} {m : List β}, l.length = m.length → (∀ (j : Nat) a b, l[j]? = some a → m[j]? = some b → f a ≤ g b) → (l.map f).sum ≤ (m.map g).sum
 | [], [], _, _ => Nat.le_refl _
 | a :: l, b :: m, hl, h => by
  simp only [List.map_cons, List.sum_cons]
  exact Nat.add_le_add (h 0 a b rfl rfl) (sum_le (by simpa using hl) fun j x y hx hy => h (j + 1) x y (by simpa using hx) (by simpa using hy))
 | [], _ :: _, hl, _ => by simp at hl
 | _ :: _, [], hl, _ => by simp at hl
section
variable {H : Type} {enc : TypeId × Value → H} {P : Program} {W : World}
theorem sum_bulk (xs : List (DataW H × List MemPlace)) : (xs.map fun x => Rows.uptoBulk x.1).sum = Rows.uptoBulkAll (xs.map (·.1)) := by
 induction xs with
 | nil => simp [Rows.uptoBulkAll]
 | cons x r ih => simp [Rows.uptoBulkAll, ih]
structure Opn (enc : TypeId × Value → H) (P : Program) (W : World) (n T : Nat) {α : Type} (f : α → List V) (ok : α → Prop) (sz : α → Nat) : Prop where
 go : ∀ cs x, DataW.trod enc P W 0 (fun _ => true) true n T cs = some x → ∃ a, RO W (f a) cs ∧ ok a ∧ sz a ≤ Rows.uptoBulk x.1
theorem Opn.zero {T : Nat} {α : Type} {f : α → List V} {ok : α → Prop} {sz : α → Nat} : Opn enc P W 0 T f ok sz := ⟨fun cs x h => by simp [DataW.trod] at h⟩
theorem Opn.map {n T : Nat} {α β : Type} {f : α → List V} {ok : α → Prop} {sz : α → Nat} {f' : β → List V} {ok' : β → Prop} {sz' : β → Nat} (g : α → β) (h : Opn enc P W n T f ok sz) (hf : ∀ a, ok a → f' (g a) = f a) (hok : ∀ a, ok a → ok' (g a)) (hs : ∀ a, ok a → sz' (g a) ≤ sz a) : Opn enc P W n T f' ok' sz' :=
 ⟨fun cs x hx => by
  obtain ⟨a, h1, h2, h3⟩ := h.go cs x hx
  exact ⟨g a, by rw [hf a h2]; exact h1, hok a h2, Nat.le_trans (hs a h2) h3⟩⟩
theorem Opn.bool {n T : Nat} (hT : P.underlying T = some .bool) : Opn enc P W n T (fun b : Bool => [.k (.bool b)]) (fun _ => True) (fun _ => 1) := ⟨fun cs x h => by
 cases n with
 | zero => simp [DataW.trod] at h
 | succ n =>
  unfold DataW.trod at h
  rw [hT] at h
  split at h <;> rename_i hu <;> first | (cases hu; done) | skip
  all_goals first | (cases h; exact ⟨_, ⟨⟨rfl, .k _⟩, trivial⟩, trivial, by simp [Rows.uptoBulk]⟩) | cases h⟩
theorem Opn.int {n T : Nat} {k : IntKind} (hT : P.underlying T = some (.int k)) : Opn enc P W n T (fun z : Int => [.k (.int k z)]) (fun z => k.min ≤ z ∧ z ≤ k.max) (fun _ => 1) := ⟨fun cs x h => by
 cases n with
 | zero => simp [DataW.trod] at h
 | succ n =>
  unfold DataW.trod at h
  rw [hT] at h
  split at h <;> rename_i hu <;> first | (cases hu; done) | skip
  all_goals first | cases h | skip
  cases hu
  split at h
  ·rename_i hw
   cases h
   obtain ⟨rfl, hw⟩ := hw
   exact ⟨_, ⟨⟨rfl, .k _⟩, trivial⟩, by simpa [Lit.wf] using hw, by simp [Rows.uptoBulk]⟩
  ·cases h⟩
theorem Opn.str {n T : Nat} (hT : P.underlying T = some .string) : Opn enc P W n T (fun s : ByteArray => [.k (.string s)]) (fun s => s.size ≤ maxLen) (fun s => s.size + 1) := ⟨fun cs x h => by
 cases n with
 | zero => simp [DataW.trod] at h
 | succ n =>
  unfold DataW.trod at h
  rw [hT] at h
  split at h <;> rename_i hu <;> first | (cases hu; done) | skip
  all_goals first | cases h | skip
  split at h
  ·rename_i hw
   cases h
   exact ⟨_, ⟨⟨rfl, .k _⟩, trivial⟩, hw, by simp [Rows.uptoBulk]⟩
  ·cases h⟩
theorem Opn.sl {n T e k : Nat} {α : Type} {f : α → List V} {ok : α → Prop} {sz : α → Nat} (p : α → V) (hT : P.underlying T = some (.slice e)) (hc : P.cellsOf e = k) (hk : 0 < k) (hp : ∀ a, (p a).cells = f a) (h : Opn enc P W (n - 1) e f ok sz) :
    Opn enc P W n T (fun l : List α => [.s none (l.map p)]) (fun l => ∀ a ∈ l, ok a) (fun l => (l.map sz).sum + 1) := ⟨fun cs x hx => by
  cases n with
  | zero => simp [DataW.trod] at hx
  | succ n =>
    unfold DataW.trod at hx
    rw [hT] at hx
    split at hx <;> rename_i hu <;> first | (cases hu; done) | skip
    all_goals first | (cases hx; exact ⟨[], ⟨⟨rfl, .s0 (fun _ h => by cases h)⟩, trivial⟩, by simp, by simp [Rows.uptoBulk]⟩) | skip
    all_goals first | cases hx | skip
    cases hu
    rename_i a len cap
    simp only [hc] at hx
    split at hx
    · rename_i hb
      obtain ⟨_, hlc, hcm⟩ := hb
      obtain ⟨elems, he, hx⟩ := Option.bind_eq_some_iff.1 hx
      obtain ⟨rest, hr, hx⟩ := Option.map_eq_some_iff.1 hx
      subst hx
      obtain ⟨e1, e2⟩ := mapM_some he
      rw [List.length_range] at e1
      have key : ∀ j, j < len → ∃ y : α, (∃ b, elems[j]? = some b ∧ ok y ∧ sz y ≤ Rows.uptoBulk b.1) ∧ (f y).length = k ∧ ∀ i, i < k → ∃ u c, (f y)[i]? = some u ∧ W.cell? ((a.add (j * k)).add i) = some c ∧ u.one = true ∧ Rep W allS u c := fun j hj => by
        obtain ⟨b, h1, h2⟩ := e2 j j (by rw [List.getElem?_range hj])
        obtain ⟨ds, h3, h4⟩ := Option.bind_eq_some_iff.1 h2
        obtain ⟨y, k1, k2, k3⟩ := h.go ds b h4
        unfold World.cells? at h3
        split at h3
        · obtain ⟨m1, m2⟩ := mapM_some h3
          rw [List.length_range] at m1
          obtain ⟨l1, l2⟩ := k1.spec
          refine ⟨y, ⟨b, h1, k2, k3⟩, by omega, fun i hi => ?_⟩
          obtain ⟨c, c1, c2⟩ := m2 i i (by rw [List.getElem?_range hi])
          have hu : (f y)[i]? = some (f y)[i] := List.getElem?_eq_getElem (by omega)
          exact ⟨_, c, hu, c2, l2 i _ c hu c1⟩
        · cases h3
      obtain ⟨ys, hyl, hys⟩ := list_choose len key
      have hspot : 0 < cap → a.spot = none := fun h0 => by
        have : ∃ v : DataW H × List MemPlace, ((W.cells? 0 (a.add (0 * k)) k).bind (DataW.trod enc P W 0 (fun _ => true) true n e)) = some v := by
          rcases Nat.eq_zero_or_pos len with hl | hl
          · subst hl
            simp only [if_true] at hr
            obtain ⟨_, r2⟩ := mapM_some hr
            obtain ⟨v, _, hv⟩ := r2 0 0 (by rw [List.getElem?_range (by omega)])
            exact ⟨v, by simpa using hv⟩
          · obtain ⟨v, _, hv⟩ := e2 0 0 (by rw [List.getElem?_range hl])
            exact ⟨v, hv⟩
        obtain ⟨v, hv⟩ := this
        obtain ⟨ds, h3, _⟩ := Option.bind_eq_some_iff.1 hv
        unfold World.cells? at h3
        split at h3
        · obtain ⟨_, m2⟩ := mapM_some h3
          obtain ⟨c, _, c2⟩ := m2 0 0 (by rw [List.getElem?_range hk])
          obtain ⟨b, o, s⟩ := a
          cases s with
          | none => rfl
          | some s =>
            exfalso
            simp only [Addr.add, Nat.zero_mul] at c2
            simp [World.cell?] at c2
            split at c2 <;> simp at c2
        · cases h3
      refine ⟨ys, ⟨⟨rfl, ?_⟩, trivial⟩, fun y hy => ?_, ?_⟩
      · rcases Nat.eq_zero_or_pos cap with h0 | h0
        · obtain rfl : len = 0 := by omega
          subst h0
          have : ys = [] := List.eq_nil_of_length_eq_zero hyl
          subst this
          exact .se a (fun _ h => by cases h)
        · have hsp := hspot h0
          obtain ⟨b, o, s⟩ := a
          simp only at hsp
          subst hsp
          have hfl : ∀ y ∈ ys, (f y).length = k := fun y hy => by
            obtain ⟨j, hj⟩ := List.getElem?_of_mem hy
            exact (hys j y hj).2.1
          have hfe : (ys.map p).flatMap V.cells = ys.flatMap f := by
            rw [List.flatMap_map]
            congr 1
            funext y; exact hp y
          have hat : ∀ (J : Nat) u, (ys.flatMap f)[J]? = some u → ∃ c, W.cell? ⟨b, o + J, none⟩ = some c ∧ u.one = true ∧ Rep W allS u c := fun J u hu => by
            obtain ⟨y, h1, h2⟩ := flat_inv hk hfl hu
            obtain ⟨_, _, h3⟩ := hys _ y h1
            obtain ⟨u', c, k1, k2, k3⟩ := h3 (J % k) (Nat.mod_lt _ hk)
            rw [k1] at h2; cases h2
            rw [Addr.add_lit, Addr.add_lit, Nat.add_assoc, Nat.mul_comm, Nat.div_add_mod] at k2
            exact ⟨c, k2, k3⟩
          have hlen : (ys.map p).length = len := by simpa using hyl
          rw [← hlen]
          refine .s (size := k) (fun J => (W.cell? ⟨b, o + J, none⟩).getD undef) (by omega) hcm hk (fun v hv => ?_) (fun J u hu => ?_) (fun J u hu => ?_) (fun _ h => by cases h)
          · obtain ⟨y, hy, rfl⟩ := List.mem_map.1 hv
            rw [hp]
            refine ⟨hfl y hy, fun u hu => ?_⟩
            obtain ⟨J, hJ⟩ := List.getElem?_of_mem (List.mem_flatMap.2 ⟨y, hy, hu⟩)
            obtain ⟨_, _, h1, _⟩ := hat J u hJ
            exact h1
          · rw [hfe] at hu
            obtain ⟨c, h1, _⟩ := hat J u hu
            exact ⟨World.block_lt_of_cell? W ⟨b, o + J, none⟩ (by rw [h1]), trivial, by rw [h1]; rfl⟩
          · rw [hfe] at hu
            obtain ⟨c, h1, _, h2⟩ := hat J u hu
            rw [h1]
            exact h2
      · obtain ⟨j, hj⟩ := List.getElem?_of_mem hy
        obtain ⟨⟨b, _, h1, _⟩, _⟩ := hys j y hj
        exact h1
      · have := sum_le (f := sz) (g := fun x : DataW H × List MemPlace => Rows.uptoBulk x.1) (l := ys) (m := elems) (by omega) fun j y b hy hb => by
          obtain ⟨⟨b', hb', _, h1⟩, _⟩ := hys j y hy
          rw [hb] at hb'; cases hb'
          exact h1
        rw [sum_bulk] at this
        simp only [Rows.uptoBulk]
        omega
    · cases hx⟩
def tileB (P : Program) (total : Nat) : Nat → List Field → Bool
 | off, [] => Nat.beq off total
 | off, f :: r => Nat.beq f.offset off && tileB P total (off + P.cellsOf f.type) r
structure OpnFs (enc : TypeId × Value → H) (P : Program) (W : World) (n : Nat) (fs : List Field) {α : Type} (f : α → List V) (ok : α → Prop) (sz : α → Nat) : Prop where
 go : ∀ (total off : Nat) (cs : List Value) (xs : List (DataW H × List MemPlace)), tileB P total off fs = true → cs.length = total → (fs.mapM fun fl => DataW.trod enc P W 0 (fun _ => true) true n fl.type ((cs.drop fl.offset).take (P.cellsOf fl.type))) = some xs → ∃ a, RO W (f a) (cs.drop off) ∧ ok a ∧ sz a ≤ Rows.uptoBulkAll (xs.map (·.1))
theorem OpnFs.nil {n : Nat} : OpnFs enc P W n [] (fun _ : Unit => []) (fun _ => True) (fun _ => 0) := ⟨fun total off cs xs ht hl hx => by
 have : off = total := Nat.eq_of_beq_eq_true ht
 refine ⟨(), ?_, trivial, Nat.zero_le _⟩
 rw [List.drop_of_length_le (by omega)]
 trivial⟩
theorem OpnFs.cons {n : Nat} {fl : Field} {fs : List Field} {α β : Type} {f : α → List V} {ok : α → Prop} {sz : α → Nat} {f' : β → List V} {ok' : β → Prop} {sz' : β → Nat} (h : Opn enc P W n fl.type f ok sz) (k : OpnFs enc P W n fs f' ok' sz') :
  OpnFs enc P W n (fl :: fs) (fun x : α × β => f x.1 ++ f' x.2) (fun x => ok x.1 ∧ ok' x.2) (fun x => sz x.1 + sz' x.2) := ⟨fun total off cs xs ht hl hx => by
 simp only [tileB, Bool.and_eq_true] at ht
 have ho : fl.offset = off := Nat.eq_of_beq_eq_true ht.1
 simp only [List.mapM_cons, Option.bind_eq_bind, Option.pure_def] at hx
 obtain ⟨b, hb, hx⟩ := Option.bind_eq_some_iff.1 hx
 obtain ⟨bs, hbs, hx⟩ := Option.bind_eq_some_iff.1 hx
 cases hx
 obtain ⟨a, a1, a2, a3⟩ := h.go _ _ hb
 obtain ⟨c, c1, c2, c3⟩ := k.go _ _ _ _ ht.2 hl hbs
 refine ⟨(a, c), ?_, ⟨a2, c2⟩, by simp only [List.map_cons, Rows.uptoBulkAll]; omega⟩
 have := a1.append c1
 rw [ho, ← List.drop_drop, List.take_append_drop] at this
 exact this⟩
theorem Opn.st {n T : Nat} {fs : Array Field} {α : Type} {f : α → List V} {ok : α → Prop} {sz : α → Nat} (hT : P.underlying T = some (.struct fs)) (ht : tileB P (P.cellsOf T) 0 fs.toList = true) (h : OpnFs enc P W (n - 1) fs.toList f ok sz) :
  Opn enc P W n T f ok (fun a => sz a + 1) := ⟨fun cs x hx => by
 cases n with
 | zero => simp [DataW.trod] at hx
 | succ n =>
  have hx : (if cs.length = P.cellsOf T then (fs.toList.mapM fun fl => DataW.trod enc P W 0 (fun _ => true) true n fl.type ((cs.drop fl.offset).take (P.cellsOf fl.type))).map fun xs => (DataW.agg (xs.map (·.1)), xs.flatMap (·.2)) else none) = some x := by
   unfold DataW.trod at hx
   rw [hT] at hx
   exact hx
  split at hx
  ·rename_i hl
   obtain ⟨xs, hxs, hx⟩ := Option.map_eq_some_iff.1 hx
   subst hx
   obtain ⟨a, h1, h2, h3⟩ := h.go _ _ _ _ ht hl hxs
   rw [List.drop_zero] at h1
   exact ⟨a, h1, h2, by simp only [Rows.uptoBulk]; omega⟩
  ·cases hx⟩
theorem Opn.ar {n T m e : Nat} {α : Type} {f : α → List V} {ok : α → Prop} {sz : α → Nat} (hT : P.underlying T = some (.array m e)) (hc : P.cellsOf T = m * P.cellsOf e) (h : Opn enc P W (n - 1) e f ok sz) :
    Opn enc P W n T (fun l : List α => l.flatMap f) (fun l => l.length = m ∧ ∀ a ∈ l, ok a) (fun l => (l.map sz).sum + 1) := ⟨fun cs x hx => by
  cases n with
  | zero => simp [DataW.trod] at hx
  | succ n =>
    have hx : (if cs.length = P.cellsOf T then ((List.range m).mapM fun i => DataW.trod enc P W 0 (fun _ => true) true n e ((cs.drop (i * P.cellsOf e)).take (P.cellsOf e))).map fun xs => (DataW.agg (xs.map (·.1)), xs.flatMap (·.2)) else none) = some x := by
      unfold DataW.trod at hx
      rw [hT] at hx
      exact hx
    split at hx
    · rename_i hl
      obtain ⟨xs, hxs, hx⟩ := Option.map_eq_some_iff.1 hx
      subst hx
      obtain ⟨e1, e2⟩ := mapM_some hxs
      rw [List.length_range] at e1
      obtain ⟨ys, hyl, hys⟩ := list_choose (p := fun j (y : α) => (∃ b, xs[j]? = some b ∧ ok y ∧ sz y ≤ Rows.uptoBulk b.1) ∧ RO W (f y) ((cs.drop (j * P.cellsOf e)).take (P.cellsOf e))) m fun j hj => by
        obtain ⟨b, h1, h2⟩ := e2 j j (by rw [List.getElem?_range hj])
        obtain ⟨y, k1, k2, k3⟩ := h.go _ b h2
        exact ⟨y, ⟨b, h1, k2, k3⟩, k1⟩
      refine ⟨ys, ?_, ⟨hyl, fun y hy => ?_⟩, ?_⟩
      · have hrf := range_flatten (s := P.cellsOf e) (n := m) (cs := cs) (by rw [hl, hc])
        rw [← hrf, List.flatMap]
        refine RO.flatten (by simp [hyl]) fun j us ds h1 h2 => ?_
        rw [List.getElem?_map] at h1 h2
        obtain ⟨y, hy, rfl⟩ := Option.map_eq_some_iff.1 h1
        obtain ⟨i, hi, rfl⟩ := Option.map_eq_some_iff.1 h2
        have hjl : j < m := by have := (List.getElem?_eq_some_iff.1 hy).1; omega
        rw [List.getElem?_range hjl] at hi
        cases hi
        exact (hys j y hy).2
      · obtain ⟨j, hj⟩ := List.getElem?_of_mem hy
        obtain ⟨⟨b, _, h1, _⟩, _⟩ := hys j y hj
        exact h1
      · have := sum_le (f := sz) (g := fun x : DataW H × List MemPlace => Rows.uptoBulk x.1) (l := ys) (m := xs) (by omega) fun j y b hy hb => by
          obtain ⟨⟨b', hb', _, h1⟩, _⟩ := hys j y hy
          rw [hb] at hb'; cases hb'
          exact h1
        rw [sum_bulk] at this
        simp only [Rows.uptoBulk]
        omega
    · cases hx⟩
def aggT (P : Program) (t : Nat) : Bool :=
 match P.underlying t with
 | some (.struct _) | some (.array _ _) => true
 | _ => false
theorem Opn.argA {T base : Nat} {α : Type} {f : α → List V} {ok : α → Prop} {sz : α → Nat} {v : Value} {d : DataW H} {ps : List MemPlace} (h : ∀ n, Opn enc P W n T f ok sz) (ha : aggT P T = true) (hv : Value.okWide P W .any base T v) (ht : DataW.Trod enc P W 0 (fun _ => true) true T v d ps) :
  ∃ a, Rep W allS (.a (f a)) v ∧ ok a ∧ sz a ≤ Rows.uptoBulk d := by
 obtain ⟨n, hn⟩ := ht
 obtain ⟨a, h1, h2, h3⟩ := (h n).go _ _ hn
 obtain ⟨cs, rfl⟩ : ∃ cs, v = .agg cs := by
  unfold Value.okWide at hv
  unfold aggT at ha
  split at hv
  ·obtain ⟨cs, rfl, _⟩ := hv; exact ⟨cs, rfl⟩
  ·obtain ⟨cs, rfl, _⟩ := hv; exact ⟨cs, rfl⟩
  ·rename_i k1 k2
   split at ha
   ·rename_i fs hu; exact absurd hu (k1 fs)
   ·rename_i m e hu; exact absurd hu (k2 m e)
   ·cases ha
 obtain ⟨l1, l2⟩ := h1.spec
 refine ⟨a, .a (by simpa [Value.cells] using l1) (fun u hu => ?_) (fun j u x hj hx => ?_), h2, h3⟩
 ·obtain ⟨j, hj⟩ := List.getElem?_of_mem hu
  have hjl := (List.getElem?_eq_some_iff.1 hj).1
  have hx : (Value.cells (.agg cs)).toList[j]? = some (Value.cells (.agg cs)).toList[j] := List.getElem?_eq_getElem (by omega)
  exact (l2 j u _ hj hx).1
 ·exact (l2 j u x hj (by simpa [Value.cells] using hx)).2
theorem ro_one {u : V} {cs : List Value} (h : RO W [u] cs) : ∃ c, cs = [c] ∧ Rep W allS u c := by
 match cs, h with
 | [c], h => exact ⟨c, rfl, h.1.2⟩
theorem Opn.arg1 {T base : Nat} {α : Type} {p : α → V} {ok : α → Prop} {sz : α → Nat} {v : Value} {d : DataW H} {ps : List MemPlace} (h : ∀ n, Opn enc P W n T (fun a => [p a]) ok sz) (ha : (match P.underlying T with | some .bool | some (.int _) | some .string | some (.slice _) => true | _ => false) = true) (hv : Value.okWide P W .any base T v) (ht : DataW.Trod enc P W 0 (fun _ => true) true T v d ps) :
  ∃ a, Rep W allS (p a) v ∧ ok a ∧ sz a ≤ Rows.uptoBulk d := by
 obtain ⟨n, hn⟩ := ht
 obtain ⟨a, h1, h2, h3⟩ := (h n).go _ _ hn
 have hc : v.cells = #[v] := by
  split at ha
  ·rename_i hu; obtain ⟨b, rfl⟩ := okWide_bool hu hv; rfl
  ·rename_i k hu; obtain ⟨b, rfl⟩ := okWide_int hu hv; rfl
  ·rename_i hu; obtain ⟨b, rfl⟩ := okWide_string hu hv; rfl
  ·rename_i e hu; obtain ⟨x, y, z, rfl⟩ := okWide_slice hu hv; rfl
  ·cases ha
 rw [hc] at h1
 obtain ⟨c, hc', hr⟩ := ro_one h1
 simp at hc'
 subst hc'
 exact ⟨a, hr, h2, h3⟩
theorem Opn.u8 {n T : Nat} (hT : P.underlying T = some (.int .u8)) : Opn enc P W n T (fun b : UInt8 => [bK b]) (fun _ => True) (fun _ => 1) :=
 (Opn.int hT).map (fun z => UInt8.ofNat z.toNat) (fun z hz => by
  have h0 : IntKind.u8.min = 0 := rfl
  have h1 : IntKind.u8.max = 255 := rfl
  have e : (UInt8.ofNat z.toNat).toNat = z.toNat := UInt8.toNat_ofNat_of_lt (by show _ < 256; omega)
  have : ((z.toNat : Nat) : Int) = z := by omega
  simp only [bK, e, this]) (fun _ _ => trivial) fun _ _ => Nat.le_refl _
theorem Opn.u64 {n T : Nat} (hT : P.underlying T = some (.int .u64)) : Opn enc P W n T (fun b : UInt64 => [qK b]) (fun _ => True) (fun _ => 1) :=
 (Opn.int hT).map (fun z => UInt64.ofNat z.toNat) (fun z hz => by
  have h0 : IntKind.u64.min = 0 := rfl
  have h1 : IntKind.u64.max = 18446744073709551615 := rfl
  have e : (UInt64.ofNat z.toNat).toNat = z.toNat := UInt64.toNat_ofNat_of_lt (by show _ < 18446744073709551616; omega)
  have : ((z.toNat : Nat) : Int) = z := by omega
  simp only [qK, e, this]) (fun _ _ => trivial) fun _ _ => Nat.le_refl _
theorem Opn.i64 {n T : Nat} (hT : P.underlying T = some (.int .i64)) : Opn enc P W n T (fun z : Int => [.k (.int .i64 z)]) (fun z => -9223372036854775808 ≤ z ∧ z ≤ 9223372036854775807) (fun _ => 1) :=
 (Opn.int hT).map id (fun _ _ => rfl) (fun _ hz => hz) fun _ _ => Nat.le_refl _
theorem sum_map_one {α : Type} (l : List α) : (l.map fun _ => 1).sum = l.length := by induction l with
 | nil => rfl
 | cons a l ih => simp [ih]; omega
theorem flatMap_one {α : Type} (g : α → V) (l : List α) : l.flatMap (fun a => [g a]) = l.map g := by
 induction l with
 | nil => rfl
 | cons a l ih => rw [List.flatMap_cons, List.map_cons, ih]; rfl
theorem Opn.bytes {n T e : Nat} (hT : P.underlying T = some (.slice e)) (hE : P.underlying e = some (.int .u8)) (hc : P.cellsOf e = 1) : Opn enc P W n T (fun l : List UInt8 => [.s none (l.map bK)]) (fun _ => True) (fun l => l.length + 1) :=
 (Opn.sl bK hT hc (by decide) (fun _ => rfl) (Opn.u8 hE)).map id (fun _ _ => rfl) (fun _ _ => trivial) fun l _ => by rw [sum_map_one]; exact Nat.le_refl _
theorem Opn.arr64 {n T e m : Nat} (hT : P.underlying T = some (.array m e)) (hE : P.underlying e = some (.int .u64)) (hc : P.cellsOf T = m * P.cellsOf e) : Opn enc P W n T (fun l : List UInt64 => l.map qK) (fun l => l.length = m) (fun l => l.length + 1) :=
 (Opn.ar hT hc (Opn.u64 hE)).map id (fun l _ => (flatMap_one qK l).symm) (fun _ h => h.1) fun l _ => by rw [sum_map_one]; exact Nat.le_refl _
end
end Lf
open Go.RowKit Rg Rp Go.WideShapes Go.ChangeShapes
namespace Lf
section
variable {H : Type} {enc : TypeId × Value → H} {W : World} {P : Program}
theorem opnU8 {T n : Nat} (hT : P.underlying T = some (.int .u8)) : Opn enc P W n T (fun x : Nat => [.k (.int .u8 ((x : Nat) : Int))]) (fun x => x < 256) (fun _ => 1) :=
 (Opn.u8 hT).map (fun b => b.toNat) (fun _ _ => rfl) (fun b _ => b.toNat_lt) fun _ _ => Nat.le_refl _
theorem opnU64 {T n : Nat} (hT : P.underlying T = some (.int .u64)) : Opn enc P W n T (fun x : Nat => [uK x]) (fun x => x < 18446744073709551616) (fun _ => 1) :=
 (Opn.u64 hT).map (fun b => b.toNat) (fun _ _ => rfl) (fun b _ => b.toNat_lt) fun _ _ => Nat.le_refl _
end
end Lf
end Go.Proofs.YtffaobngpbaklaaGreatDoor

/- A part of the proof: texts joined. -/
import Derived.Deep.AppendSrc
import Derived.Test.YtffaobngpbaklaaGreatDoorQ38a4a7f1
set_option linter.unusedVariables false
set_option linter.unusedSimpArgs false
namespace Go.Proofs.YtffaobngpbaklaaGreatDoor
open Go.RowKit Rg Wm Ar
set_option linter.unusedVariables false
set_option maxRecDepth 100000
namespace Lf
open Fm FrP Fw
abbrev euC : List UInt8 := [0x60, 0, 0x34, 0x60, 32, 0x34, 0x5b, 0x80, 0x15, 0x60, 18, 0x57, 0x80, 0x91, 0x06, 0x60, 6, 0x56, 0x5b, 0x50, 0x60, 0, 0x52, 0x60, 32, 0x60, 0, 0xf2]
theorem stp {c inp : List UInt8} {s s' : MS} {g p : Nat} {r : Res} (h1 : Fm.act c inp s g = .pay p (.next s')) (hg : p ≤ g) (h2 : Runs 10 14 (Fm.act c inp) s' (g - p) r) : Runs 10 14 (Fm.act c inp) s g r :=
 .next (by rw [h1, exec_pn hg]) h2
theorem eu_ask (inp : List UInt8) (x y sg g : Nat) (hg : 20 ≤ g) {r : Res} (h : Runs 10 14 (Fm.act euC inp) ⟨My.zero, sg + 3, [18, flag (decide (y % M256 = 0)), y, x], 11⟩ (g - 10) r) : Runs 10 14 (Fm.act euC inp) ⟨My.zero, sg, [y, x], 6⟩ g r := by
 refine stp (p := 1) (s' := ⟨My.zero, sg, [y, x], 7⟩) (by kernel_rfl) (by omega) ?_
 refine stp (p := 3) (s' := ⟨My.zero, sg + 1, [y, y, x], 8⟩) (by kernel_rfl) (by omega) ?_
 refine stp (p := 3) (s' := ⟨My.zero, sg + 2, [flag (decide (y % M256 = 0)), y, x], 9⟩) (by kernel_rfl) (by omega) ?_
 refine stp (p := 3) (s' := ⟨My.zero, sg + 3, [18, flag (decide (y % M256 = 0)), y, x], 11⟩) (by kernel_rfl) (by omega) ?_
 rw [show g - 1 - 3 - 3 - 3 = g - 10 by omega]
 exact h
theorem eu_step (inp : List UInt8) (x y sg g : Nat) (hy : y % M256 ≠ 0) (hg : 42 ≤ g) {r : Res} (h : Runs 10 14 (Fm.act euC inp) ⟨My.zero, sg + 6, [rW x y, y], 6⟩ (g - 42) r) : Runs 10 14 (Fm.act euC inp) ⟨My.zero, sg, [y, x], 6⟩ g r := by
 refine eu_ask inp x y sg g (by omega) ?_
 rw [decide_eq_false hy]
 refine stp (p := 10) (s' := ⟨My.zero, sg + 3, [y, x], 12⟩) (by kernel_rfl) (by omega) ?_
 refine stp (p := 3) (s' := ⟨My.zero, sg + 4, [y, y, x], 13⟩) (by kernel_rfl) (by omega) ?_
 refine stp (p := 3) (s' := ⟨My.zero, sg + 4, [x, y, y], 14⟩) (by kernel_rfl) (by omega) ?_
 refine stp (p := 5) (s' := ⟨My.zero, sg + 5, [rW x y, y], 15⟩) (by kernel_rfl) (by omega) ?_
 refine stp (p := 3) (s' := ⟨My.zero, sg + 6, [6, rW x y, y], 17⟩) (by kernel_rfl) (by omega) ?_
 refine stp (p := 8) (s' := ⟨My.zero, sg + 6, [rW x y, y], 6⟩) (by kernel_rfl) (by omega) ?_
 rw [show g - 10 - 10 - 3 - 3 - 5 - 3 - 8 = g - 42 by omega]
 exact h
theorem eu_end (inp : List UInt8) (x sg g : Nat) (hg : 300 ≤ g) : ∃ g', g' ≤ g ∧ Runs 10 14 (Fm.act euC inp) ⟨My.zero, sg, [0, x], 6⟩ g ⟨0, g', wordB x⟩ := by
 have hput : Lf.put (List.replicate 32 (0 : UInt8)) 0 (wordB x) = wordB x := by
  unfold Lf.put
  rw [wordB_len]
  simp
 have hl := wordB_len x
 have a5 : ∀ (W : List UInt8) g, Fm.act euC inp ⟨⟨1, W⟩, sg + 6, [0, 32], 27⟩ g = .pay 0 (Fm.touch ⟨⟨1, W⟩, sg + 6, [], 27⟩ 0 32 0 fun s => .stop (My.view s.m.l (0 % M256) (32 % M256))) := fun W g => by kernel_rfl
 have a2 : ∀ g, Fm.act euC inp ⟨My.zero, sg + 4, [0, x], 22⟩ g = .pay 3 (.pay 3 (.next ⟨⟨1, Lf.put (List.replicate 32 0) 0 (wordB x)⟩, sg + 4, [], 23⟩)) := fun g => by kernel_rfl
 rw [hput] at a2
 refine ⟨g - 38, by omega, eu_ask inp x 0 sg g (by omega) ?_⟩
 rw [decide_eq_true (Nat.zero_mod _)]
 refine stp (p := 10) (s' := ⟨My.zero, sg + 3, [0, x], 18⟩) (by kernel_rfl) (by omega) ?_
 refine stp (p := 1) (s' := ⟨My.zero, sg + 3, [0, x], 19⟩) (by kernel_rfl) (by omega) ?_
 refine stp (p := 2) (s' := ⟨My.zero, sg + 3, [x], 20⟩) (by kernel_rfl) (by omega) ?_
 refine stp (p := 3) (s' := ⟨My.zero, sg + 4, [0, x], 22⟩) (by kernel_rfl) (by omega) ?_
 refine .next (s' := ⟨⟨1, wordB x⟩, sg + 4, [], 23⟩) (by rw [a2, exec_p (by omega), exec_pn (by omega)]) ?_
 generalize wordB x = W at *
 refine stp (p := 3) (s' := ⟨⟨1, W⟩, sg + 5, [32], 25⟩) (by kernel_rfl) (by omega) ?_
 refine stp (p := 3) (s' := ⟨⟨1, W⟩, sg + 6, [0, 32], 27⟩) (by kernel_rfl) (by omega) ?_
 refine .done ?_
 rw [a5, exec_p (Nat.zero_le _)]
 unfold Fm.touch
 have h1 : (0 : Nat) % M256 = 0 := Nat.zero_mod _
 have h2 : 32 % M256 = 32 := by decide +kernel
 rw [h1, h2, show (⟨⟨1, W⟩, sg + 6, [], 27⟩ : MS).m.l.length = 32 from hl, show My.need 32 0 32 = some 32 from rfl]
 simp only
 rw [exec_p (show My.price 32 32 + 0 * words 32 ≤ _ from Nat.zero_le _)]
 have hgr : My.grow ⟨1, W⟩ 32 = ⟨1, W⟩ := by
  unfold My.grow
  rw [if_pos (by show 32 ≤ W.length; omega)]
 rw [hgr]
 have hv : My.view W 0 32 = W := by
  unfold My.view
  rw [List.drop_zero, List.take_of_length_le (by omega)]
 rw [exec]
 simp only
 rw [hv]
 have h3 : My.price 32 32 + 0 * words 32 = 0 := rfl
 rw [h3]
 have h4 : g - 10 - 10 - 1 - 2 - 3 - 3 - 3 - 3 - 3 - 0 - 0 = g - 38 := by omega
 rw [h4]
theorem eu_loop (inp : List UInt8) : ∀ (k x y sg g : Nat), x < M256 → y < 2 ^ k → y < M256 → 300 + 84 * k ≤ g → ∃ g', g' ≤ g ∧ Runs 10 14 (Fm.act euC inp) ⟨My.zero, sg, [y, x], 6⟩ g ⟨0, g', wordB (Nat.gcd x y)⟩
  | 0, x, y, sg, g, _, hy, _, hg => by
    obtain rfl : y = 0 := by simpa using hy
    rw [Nat.gcd_zero_right]
    exact eu_end inp x sg g (by omega)
  | k + 1, x, y, sg, g, hx, hy, hyM, hg => by
    by_cases h0 : y = 0
    · subst h0
      rw [Nat.gcd_zero_right]
      exact eu_end inp x sg g (by omega)
    have e1 : rW x y = x % y := by
      unfold rW
      rw [Nat.mod_eq_of_lt hx, Nat.mod_eq_of_lt hyM]
      first | rfl | rw [if_neg h0]
    have hr : x % y < y := Nat.mod_lt _ (Nat.pos_of_ne_zero h0)
    have hg1 : Nat.gcd x y = Nat.gcd y (x % y) := by rw [Nat.gcd_comm x y, Nat.gcd_rec y x, Nat.gcd_comm]
    rw [hg1]
    have hy0 : y % M256 ≠ 0 := by rw [Nat.mod_eq_of_lt hyM]; exact h0
    generalize x % y = q at *
    by_cases h1 : q = 0
    · subst h1
      rw [Nat.gcd_zero_right]
      obtain ⟨g', hg', hr'⟩ := eu_end inp y (sg + 6) (g - 42) (by omega)
      exact ⟨g', by omega, eu_step inp x y sg g hy0 (by omega) (by rw [e1]; exact hr')⟩
    have hqM : q < M256 := by omega
    have e2 : rW y q = y % q := by
      unfold rW
      rw [Nat.mod_eq_of_lt hyM, Nat.mod_eq_of_lt hqM]
      first | rfl | rw [if_neg h1]
    have hg2 : Nat.gcd y q = Nat.gcd q (y % q) := by rw [Nat.gcd_comm y q, Nat.gcd_rec q y, Nat.gcd_comm]
    rw [hg2]
    have hq0 : q % M256 ≠ 0 := by rw [Nat.mod_eq_of_lt hqM]; exact h1
    have hlt : y % q < q := Nat.mod_lt _ (Nat.pos_of_ne_zero h1)
    have hhalf : y % q < 2 ^ k := by
      have hp : 2 ^ (k + 1) = 2 * 2 ^ k := by rw [Nat.pow_succ, Nat.mul_comm]
      rcases Nat.lt_or_ge (2 * q) (y + 1) with h | h
      · omega
      · have h2 : y % q = y - q := by
          rw [Nat.mod_eq_sub_mod (by omega), Nat.mod_eq_of_lt (by omega)]
        omega
    obtain ⟨g', hg', hr'⟩ := eu_loop inp k q (y % q) (sg + 6 + 6) (g - 42 - 42) hqM hhalf (by omega) (by omega)
    exact ⟨g', by omega, eu_step inp x y sg g hy0 (by omega) (by rw [e1]; exact eu_step inp y q (sg + 6) (g - 42) hq0 (by omega) (by rw [e2]; exact hr'))⟩
theorem cut_words (a b : Nat) (ha : a < M256) (hb : b < M256) : Ps.beN (cut (wordB a ++ wordB b) 0 32) = a ∧ Ps.beN (cut (wordB a ++ wordB b) 32 32) = b := by
 have la := wordB_len a
 have lb := wordB_len b
 have e1 : cut (wordB a ++ wordB b) 0 32 = wordB a := by
  unfold cut
  rw [List.drop_zero, List.length_append, la, lb, show 32 - (32 + 32 - 0) = 0 by omega, List.replicate_zero, List.append_nil, List.take_left' la]
 have e2 : cut (wordB a ++ wordB b) 32 32 = wordB b := by
  unfold cut
  rw [List.drop_left' la, List.length_append, la, lb, show 32 - (32 + 32 - 32) = 0 by omega, List.replicate_zero, List.append_nil, List.take_of_length_le (by omega)]
 rw [e1, e2, wordB_num, wordB_num, Nat.mod_eq_of_lt ha, Nat.mod_eq_of_lt hb]
 exact ⟨rfl, rfl⟩
theorem eu_run (a b : Nat) (ha : a < M256) (hb : b < M256) : ∃ g, g ≤ 40000 ∧ Fm.run euC (wordB a ++ wordB b) 40000 ⟨0, g, wordB (Nat.gcd a b)⟩ := by
 obtain ⟨q1, q2⟩ := cut_words a b ha hb
 generalize wordB a ++ wordB b = inp at *
 obtain ⟨g, hg, hr⟩ := eu_loop inp 256 a b 4 39988 ha (by have := hb; rw [M256_two] at this; exact this) hb (by decide)
 refine ⟨g, by omega, ?_⟩
 refine stp (p := 3) (s' := ⟨My.zero, 1, [0], 2⟩) (by kernel_rfl) (by decide) ?_
 refine stp (p := 3) (s' := ⟨My.zero, 2, [Ps.beN (cut inp 0 32)], 3⟩) (by kernel_rfl) (by decide) ?_
 refine stp (p := 3) (s' := ⟨My.zero, 3, [32, Ps.beN (cut inp 0 32)], 5⟩) (by kernel_rfl) (by decide) ?_
 refine stp (p := 3) (s' := ⟨My.zero, 4, [Ps.beN (cut inp 32 32), Ps.beN (cut inp 0 32)], 6⟩) (by kernel_rfl) (by decide) ?_
 rw [q1, q2]
 exact hr
namespace Fw
set_option maxHeartbeats 2000000 in
theorem divides (x y : Nat) (hx : x < M256) (hy : y < M256) : LF Tryz.prog 16 [wV x, wV y] (fun _ => .k (.bool (decide (x ∣ y)))) none := by
 have c1 := Wo.DivMod y x
 have l1 := limbs_len x
 have l2 := limbs_len y
 have l3 := limbs_len (qW y x)
 have l4 := limbs_len (rW y x)
 by_cases h0 : x = 0
 ·have zx : limbs x = List.replicate 4 0 := limbs_zero.2 (by rw [h0, Nat.zero_mod])
  by_cases hy0 : y = 0
  ·have zy : limbs y = List.replicate 4 0 := limbs_zero.2 (by rw [hy0, Nat.zero_mod])
   rw [decide_eq_true (by rw [hy0]; exact Nat.dvd_zero _)]
   generalize qW y x = Q at *
   generalize rW y x = R at *
   clear h0 hy0
   refine LFx.mk' tt Tryz.func16 rfl rfl rfl (by kernel_rfl) rfl rfl fun F => ?_
   exact wk trueW trueW trueW
  ·have zy : ¬ limbs y = List.replicate 4 0 := fun k => hy0 (by have := limbs_zero.1 k; rwa [Nat.mod_eq_of_lt hy] at this)
   rw [decide_eq_false (by rw [h0]; exact fun k => hy0 (Nat.eq_zero_of_zero_dvd k))]
   generalize qW y x = Q at *
   generalize rW y x = R at *
   clear h0 hy0
   refine LFx.mk' tt Tryz.func16 rfl rfl rfl (by kernel_rfl) rfl rfl fun F => ?_
   exact wk trueW trueW trueW
 ·have zx : ¬ limbs x = List.replicate 4 0 := fun k => h0 (by have := limbs_zero.1 k; rwa [Nat.mod_eq_of_lt hx] at this)
  have e1 : rW y x = y % x := by
   unfold rW
   rw [Nat.mod_eq_of_lt hx, Nat.mod_eq_of_lt hy]
   first | rfl | rw [if_neg h0]
  have hlt : y % x < x := Nat.mod_lt _ (Nat.pos_of_ne_zero h0)
  by_cases hd : y % x = 0
  ·have zr : limbs (rW y x) = List.replicate 4 0 := limbs_zero.2 (by rw [e1, hd, Nat.zero_mod])
   rw [decide_eq_true (Nat.dvd_of_mod_eq_zero hd)]
   generalize qW y x = Q at *
   generalize rW y x = R at *
   clear h0 hd e1 hlt
   refine LFx.mk' tt Tryz.func16 rfl rfl rfl (by kernel_rfl) rfl rfl fun F => ?_
   exact wk trueW trueW trueW
  ·have zr : ¬ limbs (rW y x) = List.replicate 4 0 := fun k => hd (by have := limbs_zero.1 k; rw [e1, Nat.mod_eq_of_lt (by omega)] at this; exact this)
   have zy : ¬ limbs y = List.replicate 4 0 := fun k => hd (by have := limbs_zero.1 k; rw [Nat.mod_eq_of_lt hy] at this; rw [this, Nat.zero_mod])
   rw [decide_eq_false (fun k => hd (Nat.mod_eq_zero_of_dvd k))]
   generalize qW y x = Q at *
   generalize rW y x = R at *
   clear h0 hd e1 hlt
   refine LFx.mk' tt Tryz.func16 rfl rfl rfl (by kernel_rfl) rfl rfl fun F => ?_
   exact wk trueW trueW trueW
end Fw
end Lf
open Go.RowKit Rg
namespace Lf
section
variable {P : Program}
theorem run_appF {T Tx Tz E : Nat} {ei : TI} (hu : P.underlying T = some (.slice E)) (hE : TIok P E ei) {ad : Option Addr} {n m : Nat} {olds news : List Value} {x : Value} {ty : Nat} {w : World} (ho : Src P ei.size Tz (.slice ad n n) n olds w)
  (hs : Src P ei.size Tx x m news w) (hm : 0 < m) (hmax : n + m ≤ 140737488355328) (hb : (n + m) * ei.bytes ≤ 140737488355328) :
  ∃ v' w', (Builtin.append_ #[T, Tx] ty #[.slice ad n n, x]).run P w = .ok v' w' ∧ w'.oRow 0 E ei.size v' (0 + (n + m)) ([] ++ (olds ++ news)) ∧ w.grownBy w' none ∧
   ∃ c', v' = .slice (some ⟨w.heap.size, 0, none⟩) (0 + (n + m)) c' ∧ w.heap.size < w'.heap.size ∧ ∀ k, k < w.heap.size → w'.heap[k]? = w.heap[k]? := by
 obtain ⟨i, hi, hsz, hby, z, hz, _, hzs, _⟩ := hE.info
 rw [← hsz] at hs ho hzs ⊢
 rw [← hby] at hb
 have hl := hs.newsLen
 have hl2 := ho.newsLen
 have h63 : n + m ≤ maxLen := by simp only [maxLen]; omega
 have hlen : (olds ++ news).length = (n + m) * i.size := by rw [List.length_append, hl, hl2, Nat.add_mul]
 have hr := run_append_grow_src (P := P) w T Tx ty E i z hu hi hz ad n n olds ho.cellsD x m news hs (by omega) (by omega) (growslice_fits (by omega) hb)
 have hge := grownCap_ge w (n + m) n E
 have hcm : grownCap w (n + m) n E ≤ maxLen := grownCap_le_maxLen w (n + m) n E h63
 rw [Nat.zero_add, List.nil_append]
 refine ⟨_, _, hr, ⟨hlen, .inr ⟨w.heap.size, _, _, _, rfl, Nat.zero_le _, heap_alloc_new w.drew _, hge, hcm, ?_, ?_, .inl rfl⟩⟩, ⟨rfl, rfl, rfl, by simp, fun k hk _ => heap_alloc_old w.drew _ hk⟩, _, rfl, by simp, fun k hk => heap_alloc_old w.drew _ hk⟩
 ·simp only [Array.size_append, List.size_toArray, size_zeroCells, hzs, hlen, ← Nat.add_mul]
  congr 1
  omega
 ·simp only [Array.toList_append]
  rw [← hlen]
  exact List.take_left
theorem Does.appF {o : Oper} {env : Env} {T Tx E i sz jb off n1 : Nat} {x y : Operand} {es ys : List V} {t1 t2 : Tch} (X : TOk P) {ti ei : TI} (ho : o.op = .call { callee := .builtin .append, args := #[x, y], argTypes := #[T, Tx] }) (hx : evo env x = some (.sb jb off n1 n1)) (hS1 : SrcOk P sz T x env es t1) (hS : SrcOk P sz Tx y env ys t2) (hq : quiet (t1 ++ t2) = true)
  (hT : aget X.tab T = some ti) (hd : ti.d = .sl E) (hE : aget X.tab E = some ei) (hsz : ei.size = sz) (hpos : 0 < sz) (hes : ∀ e ∈ es, e.cells.length = sz) (hys : ∀ e ∈ ys, e.cells.length = sz) (hl : es.length = n1) (hne : 0 < ys.length) {n : Nat} (hn : es.length + ys.length = n) (hmax : n ≤ 140737488355328) (hb : n * ei.bytes ≤ 140737488355328) :
  Does P o env (.s (some i) (es ++ ys)) ((i, none, some (.r E sz n)) :: (t1 ++ t2)) := by
 refine ⟨fun F g a w mem h1 h2 h3 h4 _ K Q hK => ?_⟩
 subst hn
 subst hsz
 have hi := h4 _ _ _ (List.mem_cons_self ..)
 have hrx := h1 x (by simp [ho, Op.operands, Call.operands]) _ hx
 obtain ⟨olds, hsrc1, hone1, hfl1, hrep1⟩ := hS1 F g a w mem (fun u hu => h1 x (by simp [ho, Op.operands, Call.operands]) _ hu) h2 (fun j m m' hj => h4 j m m' (List.mem_cons_of_mem _ (List.mem_append_left _ hj)))
 obtain ⟨news, hsrc, hone2, hfl2, hrep2⟩ := hS F g a w mem (fun u hu => h1 y (by simp [ho, Op.operands, Call.operands]) _ hu) h2 (fun j m m' hj => h4 j m m' (List.mem_cons_of_mem _ (List.mem_append_right _ hj)))
 obtain ⟨ad, hxe⟩ : ∃ ad, a.eval x = .slice ad n1 n1 := by
  generalize a.eval x = z at hrx
  cases hrx
  exact ⟨_, rfl⟩
 rw [hxe, hl] at hsrc1
 have hown0 : w.oRow 0 E ei.size (.slice (Option.map (fun b => (⟨b, 0, none⟩ : Addr)) none) 0 0) 0 [] := oRow_nil w 0 E ei.size
 have hgi : (g.addRow i (none, 0, 0)).rw i = some (none, 0, 0) := by simp [Gh.addRow]
 obtain ⟨he0, h2', h3'⟩ := h2.nilRow h3 (m := .r E ei.size 0) hi (.r hgi ⟨hpos, ⟨_, hown0⟩, fun _ h => by cases h⟩) fun b o ⟨l, c, hp⟩ => by rw [hgi] at hp; cases hp
 obtain ⟨v', w', hrun, hown', hg, hv⟩ := run_appF (P := P) (ty := o.type) ((X.get hT).sl hd) (X.get hE) hsrc1 hsrc hne (by rw [← hl]; exact hmax) (by rw [← hl]; exact hb)
 have hg0 : Value.ownBlock (.slice (Option.map (fun b => (⟨b, 0, none⟩ : Addr)) none) 0 0) = none := rfl
 obtain ⟨g', a', c', rfl, k1, k2, k3, k4, k5⟩ := h2'.grow (n := 0) (m := n1 + ys.length) (a := none) (c := 0) (xs := []) h3' (aget_self ..) hgi hown0 hown' (by rw [hg0]; exact hg) (.inr ⟨by omega, hv⟩)
 rw [Nat.zero_add, List.nil_append] at hown'
 rw [Nat.zero_add] at k1 k3 k5 hrun
 unfold Oper.wp
 have hrun' : (execOp a.eval o).run P w = .ok (.value (.slice (Option.map (fun b => ⟨b, 0, none⟩) a') (n1 + ys.length) c')) w' := by
  simp [execOp, ho, resolve, invoke, builtin, hxe, hrun]
 rw [hrun']
 have hmem : RelM F g' (tset ((i, none, some (.r E ei.size (es.length + ys.length))) :: (t1 ++ t2)) mem) w' := by
  rw [tset_head hq, hl]
  exact k3.congr fun j => by
   simp only [aget_cons]
   split <;> rfl
 refine hK _ g' w' (he0.trans k2) hmem k4 (Rep.row (by rw [List.length_append, hl]) hpos k1 hown' k5 (fun e he => ?_) (fun j u z hj hz => ?_))
 ·rcases List.mem_append.1 he with he | he
  ·exact ⟨hes e he, hone1 e he⟩
  ·exact ⟨hys e he, hone2 e he⟩
 ·rw [List.flatMap_append] at hj
  rcases Nat.lt_or_ge j olds.length with hlt | hge
  ·rw [List.getElem?_append_left (by omega)] at hj
   rw [List.getElem?_append_left hlt] at hz
   exact (hrep1 j u z hj hz).mono (he0.bare.trans k2.bare)
  ·rw [List.getElem?_append_right (by omega)] at hj
   rw [List.getElem?_append_right hge, ← hfl1] at hz
   exact (hrep2 _ u z hj hz).mono (he0.bare.trans k2.bare)
end
section
variable {P : Program} {F : Fr0} {N : Nat} {ops : Array Oper} {chk : List (Nat × Tch) → Bool} {K : Env → Mem → Prop} {acc : List (Nat × Tch)} {env : Env} {mem : Mem} {i d : Nat} {o : Oper} {rs : List (Nat × Oper)}
theorem DR.abF {α β : Type} {f : α → V} {f2 : β → V} {T Tx E e offx offy n1 ny capy jb jy : Nat} {x y : Operand} {cs ds : List V} {l : List α} {l2 : List β} (X : TOk P) {ti xi ei : TI} (ho : o.op = .call { callee := .builtin .append, args := #[x, y], argTypes := #[T, Tx] }) (hg : gd ops env o = some true) (hds : o.dst = some d) (hx : evo env x = some (.sb jb offx n1 n1)) (hy : evo env y = some (.sb jy offy ny capy))
  (hbx : aget mem jb = some (.b cs)) (hby : aget mem jy = some (.b ds)) (hi : aget mem d = none) (hT : aget X.tab T = some ti) (hdt : ti.d = .sl E) (hE : aget X.tab E = some ei) (hs1 : Nat.beq ei.size 1 = true) (hX : aget X.tab Tx = some xi) (hdx : xi.d = .sl e)
  (hcs : (cs.drop offx).take n1 = l.map f) (hcy : (ds.drop offy).take ny = l2.map f2) (hf : ∀ a, (f a).cells = [f a]) (hf2 : ∀ a, (f2 a).cells = [f2 a]) (hr : ∀ a, (f a).bare = some (f a)) (hr2 : ∀ a, (f2 a).bare = some (f2 a)) (hl : l.length = n1) (hl2 : l2.length = ny) (hne : 0 < ny) (hc1 : offx + n1 ≤ cs.length) (hc2 : offy + ny ≤ ds.length)
  {n : Nat} (hn : n1 + ny = n) (hmax : n ≤ 140737488355328) (hb : n * ei.bytes ≤ 140737488355328) (hd : Nat.blt d N = true)
  (hK : DR P F N ops chk K rs ((i, [(d, none, some (.r E ei.size n)), (jb, some (.b cs), none), (jy, some (.b ds), none)]) :: acc) ((d, .s (some d) (l.map f ++ l2.map f2)) :: env) ((d, .r E ei.size n) :: mem)) : DR P F N ops chk K ((i, o) :: rs) acc env mem := by
 have e1 := Nat.eq_of_beq_eq_true hs1
 have hlx : (l.map f).length = n1 := by rw [List.length_map]; exact hl
 have hly : (l2.map f2).length = ny := by rw [List.length_map]; exact hl2
 have S1 : SrcOk P ei.size T x env (l.map f) [(jb, some (.b cs), none)] := SrcOk.box X hx hT hdt e1 hcs hc1 (cells1_map hf l) fun u hu => by obtain ⟨a, _, rfl⟩ := List.mem_map.1 hu; exact hr a
 have S2 : SrcOk P ei.size Tx y env (l2.map f2) [(jy, some (.b ds), none)] := SrcOk.box X hy hX hdx e1 hcy hc2 (cells1_map hf2 l2) fun u hu => by obtain ⟨a, _, rfl⟩ := List.mem_map.1 hu; exact hr2 a
 refine DR.step hg (Does.appF (i := d) X ho hx S1 S2 rfl hT hdt hE rfl (by omega) (fun e he => ?_) (fun e he => ?_) hlx (by rw [hly]; exact hne) (by rw [hlx, hly]; exact hn) hmax hb) (fun j m m' hj => ?_) (by rw [hds]; exact hd) (by rw [hds]; exact hK)
 ·obtain ⟨a, _, rfl⟩ := List.mem_map.1 he
  rw [hf, e1]; rfl
 ·obtain ⟨a, _, rfl⟩ := List.mem_map.1 he
  rw [hf2, e1]; rfl
 ·simp only [List.cons_append, List.nil_append, List.mem_cons, Prod.mk.injEq, List.not_mem_nil, or_false] at hj
  rcases hj with ⟨rfl, rfl, _⟩ | ⟨rfl, rfl, _⟩ | ⟨rfl, rfl, _⟩
  ·exact hi
  ·exact hbx
  ·exact hby
end
end Lf
end Go.Proofs.YtffaobngpbaklaaGreatDoor

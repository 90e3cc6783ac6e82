/- A part of the proof: texts joined. -/
import Derived.Lib.SlBuf
import Derived.Lib.MakeNoZero
import Derived.Deep.LoopGhost
import Derived.Deep.Draws
import Derived.Shelf.Spec.SlicesInsert
import Derived.Test.YtffaobngpbaklaaGreatDoorQ39ba8e9e
import Derived.Test.YtffaobngpbaklaaGreatDoorQ411b6b8a
set_option linter.unusedVariables false
set_option linter.unusedSimpArgs false
namespace Go.Proofs.YtffaobngpbaklaaGreatDoor
open Go.RowKit Rg Wm Ar
set_option linter.unusedVariables false
set_option maxRecDepth 100000
namespace Lf
open Fm FrP Fw
namespace Fw
set_option maxHeartbeats 4000000 in
theorem FrameEuclid (a b d : Nat) (ha : a < M256) (hb : b < M256) (hd : d < M256) : LF Tryz.prog 5 [wV a, wV b, wV d] (fun _ => .k (.bool true)) none := by
 obtain ⟨g, hg, hr⟩ := eu_run a b ha hb
 have la := wordB_len a
 have lb := wordB_len b
 have c1 := alive16
 have c2 := Wo.Bytes a
 have c3 := Wo.Bytes b
 have c4 := Run euC (wordB a ++ wordB b) 40000 (by decide) (by rw [List.length_append]; omega) (by decide) _ hr
 have hG : Nat.gcd a b < M256 := by
  rcases Nat.eq_zero_or_pos a with h | h
  ·subst h; rw [Nat.gcd_zero_left]; exact hb
  ·exact Nat.lt_of_le_of_lt (Nat.gcd_le_left b h) ha
 have hda : Nat.gcd a b ∣ a := Nat.gcd_dvd_left a b
 have hdb : Nat.gcd a b ∣ b := Nat.gcd_dvd_right a b
 have hdg : d ∣ a → d ∣ b → d ∣ Nat.gcd a b := Nat.dvd_gcd
 generalize Nat.gcd a b = G at *
 have lg := wordB_len G
 have c5 := Wo.Read (wordB G) (by omega)
 rw [wordB_num, Nat.mod_eq_of_lt hG] at c5
 have c6 := divides G a hG ha
 have c7 := divides G b hG hb
 have c8 := divides d a hd ha
 have c9 := divides d b hd hb
 have c10 := divides d G hd hG
 rw [decide_eq_true hda] at c6
 rw [decide_eq_true hdb] at c7
 have l1 := limbs_len a
 have l2 := limbs_len b
 have l3 := limbs_len d
 have l4 := limbs_len G
 rw [List.map_append] at c4
 clear hr hda hdb
 refine LFx.mk' tt Tryz.func5 rfl rfl rfl (by kernel_rfl) rfl rfl fun F => ?_
 refine wk ?_ trueW trueW
 refine DR.abF (f := bK) (f2 := bK) (l := wordB a) (l2 := wordB b) (n := 64) tt rfl rfl rfl rfl rfl rfl rfl rfl rfl rfl rfl rfl rfl rfl ?_ ?_ (fun _ => rfl) (fun _ => rfl) (fun _ => rfl) (fun _ => rfl) la lb (by decide) (by show 0 + (32 - 0) ≤ ((wordB a).map bK).length; rw [List.length_map, la]; exact Nat.le_refl _) (by show 0 + (32 - 0) ≤ ((wordB b).map bK).length; rw [List.length_map, lb]; exact Nat.le_refl _) rfl (by decide) (by decide) rfl ?_
 ·rw [List.drop_zero]; exact List.take_of_length_le (by show ((wordB a).map bK).length ≤ 32; rw [List.length_map, la]; exact Nat.le_refl _)
 ·rw [List.drop_zero]; exact List.take_of_length_le (by show ((wordB b).map bK).length ≤ 32; rw [List.length_map, lb]; exact Nat.le_refl _)
 by_cases ha' : d ∣ a
 ·by_cases hb' : d ∣ b
  ·have hg' := hdg ha' hb'
   rw [decide_eq_true ha'] at c8
   rw [decide_eq_true hb'] at c9
   rw [decide_eq_true hg'] at c10
   clear ha' hb' hg' hdg
   exact wk trueW trueW trueW
  ·rw [decide_eq_true ha'] at c8
   rw [decide_eq_false hb'] at c9
   clear ha' hb' hdg c10
   exact wk trueW trueW trueW
 ·rw [decide_eq_false ha'] at c8
  clear ha' hdg c9 c10
  exact wk trueW trueW trueW
end Fw
end Lf
open Go.RowKit Rg Wm Ar
set_option maxRecDepth 100000
namespace Lf
def pat (a : UInt8) (k : Nat) : List UInt8 := (List.range k).map fun i => if i % 2 = 0 then 96 else a
theorem pat_len (a : UInt8) (k : Nat) : (pat a k).length = k := by simp [pat]
theorem pat_at (a : UInt8) {k i : Nat} (h : i < k) : (pat a k)[i]? = some (if i % 2 = 0 then 96 else a) := by
 simp [pat, h]
theorem pat_step (a : UInt8) {q k : Nat} (hq : q % 2 = 0) (hk : k ≤ q) : pat a q ++ (pat a q).take k = pat a (q + k) := by
 apply List.ext_getElem?
 intro i
 rcases Nat.lt_or_ge i q with h | h
 ·rw [List.getElem?_append_left (by rw [pat_len]; exact h), pat_at a h, pat_at a (by omega)]
 ·rw [List.getElem?_append_right (by rw [pat_len]; exact h), pat_len, List.getElem?_take]
  by_cases h2 : i - q < k
  ·rw [if_pos h2, pat_at a (by omega), pat_at a (by omega), show (i - q) % 2 = i % 2 by omega]
  ·rw [if_neg h2, List.getElem?_eq_none (by rw [pat_len]; omega)]
theorem copy_self {P : Program} (w0 wr : World) (h N : Nat) (acc : List UInt8) (k c m : Nat) (t ty e : TypeId) (hu : P.underlying t = some (.slice e)) (hs : (P.info? e).map (·.size) = some 1) (hh : w0.heap.size ≤ h)
  (hb : Lib.Buf w0 wr h N acc) (hk : k ≤ acc.length) (h0 : 0 < k) (hN : acc.length < N) (hm : min (N - acc.length) k = m) :
  ∃ wr', (Builtin.copy_ #[t, t] ty #[Lib.tailV h N acc.length, .slice (some ⟨h, 0, none⟩) k c]).run P wr = .ok (.int .i64 (m : Int)) wr' ∧ Lib.Buf w0 wr' h N (acc ++ acc.take m) := by
 obtain ⟨l, hl⟩ : ∃ l, acc.take m = l := ⟨_, rfl⟩
 have hll : l.length = m := by rw [← hl, List.length_take]; omega
 have hget : ∀ (j : Nat) x, l[j]? = some x → acc[j]? = some x := fun j x hj => by
  rw [← hl, List.getElem?_take] at hj
  split at hj
  ·exact hj
  ·cases hj
 rw [hl]
 have hne : ¬ N = acc.length := by omega
 have hr := run_copy_cells (P := P) wr t t ty e h acc.length (N - acc.length) (N - acc.length) ⟨h, 0, none⟩ k c (l.map fun x => Value.int .u8 (x.toNat : Int)) hu hs (by rw [List.length_map, hll, ← hm]; exact Nat.min_comm _ _)
  (fun j u hj => by
   rw [List.getElem?_map] at hj
   obtain ⟨x, hx, rfl⟩ := Option.map_eq_some_iff.1 hj
   rw [Addr.add_lit, Nat.zero_add]
   exact hb.holds j x (hget j x hx))
  (fun j hj => by rw [List.length_map] at hj; exact hb.there _ (by omega)) (fun j hj => by rw [List.length_map] at hj; exact hb.free _ (by omega))
  (fun u hu' => by obtain ⟨x, _, rfl⟩ := List.mem_map.1 hu'; rfl)
 rw [List.length_map, hll] at hr
 refine ⟨_, by unfold Lib.tailV; rw [if_neg hne]; exact hr, ?_⟩
 have hin := World.cell?_setCells_in h (l.map fun x => Value.int .u8 (x.toNat : Int)) acc.length wr (fun j hj => by rw [List.length_map] at hj; exact hb.there _ (by omega))
 have hout := World.cell?_setCells_out h (l.map fun x => Value.int .u8 (x.toNat : Int)) acc.length wr
 refine ⟨?_, ?_, ?_, ?_, by rw [List.length_append]; omega⟩
 ·exact Lib.below_setCells h (Nat.le_refl _) _ _ hb.below
 ·intro j hj
  by_cases h1 : acc.length ≤ j ∧ j < acc.length + l.length
  ·obtain ⟨d, rfl⟩ : ∃ d, j = acc.length + d := ⟨j - acc.length, by omega⟩
   rw [hin d (by rw [List.length_map]; omega)]
   rfl
  ·rw [hout ⟨h, j, none⟩ (fun _ _ => by rw [List.length_map]; show j < _ ∨ _ ≤ j; omega)]
   exact hb.there j hj
 ·intro j hj
  rw [World.frozen?_setCells]
  exact hb.free j hj
 ·intro j x hx
  by_cases h1 : j < acc.length
  ·rw [List.getElem?_append_left h1] at hx
   rw [hout ⟨h, j, none⟩ (fun _ _ => Or.inl h1)]
   exact hb.holds j x hx
  ·rw [List.getElem?_append_right (by omega)] at hx
   obtain ⟨d, rfl⟩ : ∃ d, j = acc.length + d := ⟨j - acc.length, by omega⟩
   rw [Nat.add_sub_cancel_left] at hx
   have hd : d < l.length := (List.getElem?_eq_some_iff.1 hx).1
   rw [hin d (by rw [List.length_map]; exact hd)]
   simp [List.getElem_map, (List.getElem?_eq_some_iff.1 hx).2]
theorem buf_drew {w0 wr : World} {h N : Nat} {acc : List UInt8} (hb : Lib.Buf w0 wr h N acc) : Lib.Buf w0 wr.drew h N acc :=
 ⟨⟨hb.below.1, hb.below.2, hb.below.3, hb.below.4, hb.below.5⟩, hb.there, hb.free, hb.holds, hb.fits⟩
namespace By
theorem Mul2 (n : Nat) (hn : n < 1000) (w : World) : Calls Tryz.prog 41 #[.int .u64 2, .int .u64 (n : Int)] w fun e w' => e = .returned (.tuple #[.int .u64 0, .int .u64 ((2 * n : Nat) : Int)]) ∧ w' = w := by
  have m1 := Wd.Mul64 2 n (by decide) (Nat.lt_trans hn (by decide))
  have e1 : 2 * n / m64 = 0 := Nat.div_eq_of_lt (Nat.lt_trans (show 2 * n < 2000 by omega) (by decide))
  have e2 : 2 * n % m64 = 2 * n := Nat.mod_eq_of_lt (Nat.lt_trans (show 2 * n < 2000 by omega) (by decide))
  rw [e1, e2] at m1
  go_enter Tryz.func41, Tryz.ntmps41
  go_wp2_with (first
    | (go_at_call 59
       refine (m1 _).mono ?_
       rintro e w1 ⟨rfl, rfl⟩))
  go_ret2
  exact ⟨rfl, rfl⟩
set_option maxHeartbeats 8000000 in
theorem Repeat0 (n b o cap : Nat) (a : UInt8) (hn : n < 201) (h0 : 0 < n) (w : World) (hv : Lib.HoldsBytes w (.slice (some ⟨b, o, none⟩) 2 cap) [96, a]) : Calls Tryz.prog 22 #[.slice (some ⟨b, o, none⟩) 2 cap, .int .i64 (n : Int)] w fun e w' => e = .returned (.slice (some ⟨w.heap.size, 0, none⟩) (2 * n) (2 * n)) ∧ (∀ (j : Nat) x, (pat a (2 * n))[j]? = some x → w'.cell? ⟨w.heap.size, j, none⟩ = some (.int .u8 (x.toNat : Int))) ∧ Below w.heap.size w w' := by
  have HV := Lib.hid hv
  clear hv
  have m1 := Mul2 n (by omega)
  have hw : IntKind.u64.wrap (n : Int) = (n : Int) := by rw [IntKind.wrap_u64]; omega
  have hw2 : IntKind.i64.wrap ((2 * n : Nat) : Int) = ((2 * n : Nat) : Int) := by rw [IntKind.wrap_i64]; omega
  have t22 : Tryz.prog.underlying 22 = some (.slice 5) := by kernel_rfl
  have hs5 : (Tryz.prog.info? 5).map (·.size) = some 1 := by kernel_rfl
  obtain ⟨T, hT⟩ : ∃ T, 2 * n = T := ⟨_, rfl⟩
  rw [hT] at m1 hw2 ⊢
  have f0 : ((n : Int) == 0) = false := beq_eq_false_iff_ne.2 (by omega)
  have f1 : ¬ ((n : Int) < 0) := by omega
  have f2 : ¬ ((9223372036854775807 : Int) < (T : Int)) := by omega
  have f3 : ¬ ((8192 : Int) < (T : Int)) := by omega
  have i0 : (0 : Int) ≤ (T : Int) := by omega
  obtain ⟨cs, hrunM, hle, _⟩ := Lib.run_makeNoZero (P := Tryz.prog) w #[3] 22 5 t22 T (by omega)
  have hcall : (callFunc 42 #[.int .i64 (T : Int)]).run Tryz.prog w = .ok (.value (.slice (some ⟨w.heap.size, 0, none⟩) T cs.size)) ((w.alloc (.cells cs 5)).drewN 2) := by
    rw [run_callFunc_extern Tryz.func42 (by kernel_rfl) (by kernel_rfl) (by kernel_rfl) (e := Extern.BytealgMakeNoZero.makeNoZero #[3] #[22]) (by kernel_rfl), hrunM]
    rfl
  clear hrunM
  have i1 : (T : Int) ≤ (cs.size : Int) := by omega
  have B0 := Lib.Buf.start w cs 5 T 2 hle
  obtain ⟨w1, hr1, B1⟩ := Lib.copy_part (P := Tryz.prog) w _ w.heap.size T [] [96, a] (.slice (some ⟨b, o, none⟩) 2 cap) 22 3 5 t22 hs5 (Nat.le_refl _) B0 HV.out (by simp; omega)
  rw [List.length_nil, Lib.tailV_zero] at hr1
  rw [List.nil_append] at B1
  have HB1 := Lib.hid B1
  clear B1 B0
  go_enter Tryz.func22, Tryz.ntmps22
  go_wp2_with (first
    | (go_at_call 41
       refine (m1 _).mono ?_
       rintro e W ⟨rfl, rfl⟩)
    | (at_builtin; refine Lib.wpList_copy_run _ rfl _ _ 22 22 rfl _ _ rfl rfl hr1 ?_))
  clear hcall hr1 m1
  have mixed : Tryz.prog.follows .mixedOrders = true := by kernel_rfl
  have hpt : pat a 2 = [96, a] := rfl
  rw [← hpt] at HB1
  go_loopg [10] (T - 2) (fun g s10 wr => ∃ q : Nat, q ≤ T ∧ g = T - q ∧ 0 < q ∧ s10 = .int .i64 (q : Int) ∧ RowKit.Hid (q % 2 = 0) ∧ RowKit.Hid (Lib.Buf W wr W.heap.size T (pat a q)))
  case atStart => exact ⟨2, by omega, rfl, by decide, rfl, Lib.hid rfl, HB1⟩
  case round =>
    obtain ⟨q, hq, rfl, hq0, rfl, he, HB⟩ := hrel
    by_cases hlt : q < T
    · have hz : (q : Int) < (T : Int) := by omega
      have hsl : ∀ X, (Instr.slice 22 (.slice (some ⟨W.heap.size, 0, none⟩) T T) (some (.int .i64 (q : Int))) none none).run Tryz.prog X = .ok (Lib.tailV W.heap.size T q) X := fun X => Lib.run_slice_tailV X 22 5 t22 (fun _ => by kernel_rfl) W.heap.size T q hq
      have hmin : min (q : Int) (T : Int) = (q : Int) := by omega
      obtain ⟨m, hm⟩ : ∃ m, min (T - q) q = m := ⟨_, rfl⟩
      have hw3 : IntKind.i64.wrap ((q : Int) + (m : Int)) = ((q + m : Nat) : Int) := by rw [IntKind.wrap_i64]; omega
      obtain ⟨w2, hr2, B2⟩ := copy_self (P := Tryz.prog) W wr.drew W.heap.size T (pat a q) q T m 22 3 5 t22 hs5 (Nat.le_refl _) (buf_drew HB.out) (by rw [pat_len]; exact Nat.le_refl _) hq0 (by rw [pat_len]; exact hlt) (by rw [pat_len]; exact hm)
      rw [pat_len] at hr2
      rw [pat_step a he.out (by omega)] at B2
      have HB2 := Lib.hid B2
      clear B2
      go_wp2
      go_region_law_o (refine Go.Lib.step_copy_runI rfl _ _ 22 22 rfl _ _ (by simp [Act.eval, Act.put]) (by simp [Act.eval, Act.put]) hr2 ?_)
      go_wp2
      go_roundg (T - (q + m))
      case measure => omega
      case rel => exact ⟨q + m, by omega, rfl, by omega, by first | exact congrArg _ hw3 | go_num, Lib.hid (by have := he.out; omega), HB2⟩
    · obtain rfl : q = T := by omega
      have hz : ¬ ((q : Int) < (q : Int)) := by omega
      go_wp2
      go_ret
      exact ⟨rfl, HB.out.holds, HB.out.below⟩
theorem rep_two {w : World} {g : Gh} {a : UInt8} {y : Value} (h : Rep w g (.s none ([96, a].map bK)) y) : ∃ b o c, y = .slice (some ⟨b, o, none⟩) 2 c ∧ Lib.HoldsBytes w y [96, a] := by
 cases h with
 | @s _ _ _ b off cap size xs hn hm hp hs hx hc ht =>
  refine ⟨b, off, cap, rfl, _, _, rfl, (fun h => by cases h), fun a0 ha i x hi => ?_⟩
  cases ha
  rw [Addr.add_lit]
  have hf : (([96, a].map bK).flatMap V.cells)[i]? = some (bK x) := by
   rw [flat_map1 (fun _ => rfl), List.getElem?_map, hi]
   rfl
  rw [(hx i _ hf).2.2, rep_k (hc i _ hf)]
theorem Repeat (n : Nat) (a : UInt8) (hn : n < 201) (h0 : 0 < n) : LF Tryz.prog 22 [.s none ([96, a].map bK), .k (.int .i64 (n : Int))] (fun _ => .s none ((pat a (2 * n)).map bK)) none := by
 refine ⟨by kernel_rfl, fun g w vals hm hl hr => ?_⟩
 have hs : vals.size = 2 := hl.symm
 have e0 : vals[0]? = some vals[0] := Array.getElem?_eq_getElem (by omega)
 have e1 : vals[1]? = some vals[1] := Array.getElem?_eq_getElem (by omega)
 obtain ⟨b, o, c, hv0, hB⟩ := rep_two (hr 0 _ _ rfl e0)
 have hv1 := rep_k (hr 1 _ _ rfl e1)
 have hv : vals = #[.slice (some ⟨b, o, none⟩) 2 c, .int .i64 (n : Int)] := by
  rw [← hv0, ← hv1]
  apply Array.ext
  ·simp [hs]
  ·intro i h1 h2
   match i with
   | 0 => rfl
   | 1 => rfl
   | i + 2 => omega
 rw [hv0] at hB
 rw [hv]
 refine (Repeat0 n b o c a hn h0 w hB).mono fun e w' ⟨he, hc, hx⟩ => ⟨.ret _, [], g, ⟨rfl, rfl⟩, ?_⟩
 obtain ⟨k1, k2, k3⟩ := hm.ext (g' := g) ⟨rfl, rfl, rfl, Nat.le_refl _, fun _ _ _ => rfl, fun _ _ _ _ => ⟨rfl, rfl⟩, fun _ _ _ _ h => h, fun _ _ _ h => h, fun _ _ _ _ => rfl⟩ hx (fun _ _ _ => Iff.rfl) rfl rfl (fun b o hb => hm.fut b o (Nat.le_trans hx.size hb))
 have hl : ((pat a (2 * n)).map bK).length = 2 * n := by rw [List.length_map, pat_len]
 refine ⟨k1, k2, k3, _, he, ?_⟩
 have R := Rep.s (w := w') (g := g) (o := none) (es := (pat a (2 * n)).map bK) (b := w.heap.size) (off := 0) (cap := 2 * n) (size := 1) (fun j => .int .u8 (((pat a (2 * n)).getD j 0).toNat : Int)) (by rw [hl]; exact Nat.le_refl _) (by unfold maxLen; omega) (by decide)
  (fun e he => by obtain ⟨x, _, rfl⟩ := List.mem_map.1 he; exact ⟨rfl, fun u hu => by rw [List.mem_singleton.1 hu]; rfl⟩)
  (fun j u hj => by
   rw [flat_map1 (fun _ => rfl), List.getElem?_map] at hj
   obtain ⟨x, hx', rfl⟩ := Option.map_eq_some_iff.1 hj
   have hcell := hc j x hx'
   rw [Nat.zero_add, List.getD_eq_getElem?_getD, hx']
   exact ⟨World.block_lt_of_cell? w' _ hcell, hm.fut _ _ (Nat.le_refl _), hcell⟩)
  (fun j u hj => by
   rw [flat_map1 (fun _ => rfl), List.getElem?_map] at hj
   obtain ⟨x, hx', rfl⟩ := Option.map_eq_some_iff.1 hj
   rw [List.getD_eq_getElem?_getD, hx']
   exact .k _)
  (fun r hr => by cases hr)
 rw [hl] at R
 exact R
end By
end Lf
open Go.RowKit Rg Wm Ar
set_option maxRecDepth 100000
namespace Lf
open Fm FrP Fw
theorem deep_eff (c : List UInt8) (s : MS) (g : Nat) : eff c [] 96 s g = nx c (push s (Ps.beN (cut (c.drop (s.pc + 1)) 0 1))) := by kernel_rfl
theorem deep_step {c : List UInt8} {s : MS} {g : Nat} (h1 : s.pc < c.length) (h2 : c.getD s.pc default = 96) (hs : s.st.length < 64) : Fm.act c [] s g = .pay 3 (nx c (push s (Ps.beN (cut (c.drop (s.pc + 1)) 0 1)))) := by
 unfold Fm.act
 rw [if_neg (by omega), h2]
 have e : (96 : UInt8).toNat = 96 := rfl
 rw [e, if_neg (show ¬ (Cn.name 96 = [] ∨ ofW 96 = true) by decide +kernel)]
 have e2 : cnt 96 = (0, 1) := by kernel_rfl
 have e3 : Pr.opN 96 = 3 := by kernel_rfl
 rw [e2, e3, if_neg (show ¬ (s.st.length < 0 ∨ 64 < s.st.length - 0 + 1) by omega)]
 exact congrArg _ (deep_eff c s _)
theorem deep_full {c : List UInt8} {s : MS} {g : Nat} (h1 : s.pc < c.length) (h2 : c.getD s.pc default = 96) (hs : 64 ≤ s.st.length) : Fm.act c [] s g = .fail 7 := by
 unfold Fm.act
 rw [if_neg (by omega), h2]
 have e : (96 : UInt8).toNat = 96 := rfl
 rw [e, if_neg (show ¬ (Cn.name 96 = [] ∨ ofW 96 = true) by decide +kernel)]
 have e2 : cnt 96 = (0, 1) := by kernel_rfl
 rw [e2, if_pos (show s.st.length < 0 ∨ 64 < s.st.length - 0 + 1 by omega)]
theorem deep_at (a : UInt8) (n j : Nat) (h : j < n) : 2 * j < (pat a (2 * n)).length ∧ (pat a (2 * n)).getD (2 * j) default = 96 ∧ Co.nxt (pat a (2 * n)) (2 * j) = 2 * (j + 1) := by
 have h1 : (pat a (2 * n)).getD (2 * j) default = 96 := by
  rw [List.getD_eq_getElem?_getD, pat_at a (by omega), if_pos (by omega)]
  rfl
 refine ⟨by rw [pat_len]; omega, h1, ?_⟩
 unfold Co.nxt
 have e : Co.psh (96 : UInt8) = 1 := by kernel_rfl
 rw [h1, e, pat_len]
 omega
theorem deep_ok (a : UInt8) (n : Nat) : ∀ (k : Nat) (s : MS), s.st.length + k = n → n ≤ 64 → s.pc = 2 * s.st.length → Runs 10 14 (Fm.act (pat a (2 * n)) []) s (1000 - 3 * s.st.length) ⟨0, 1000 - 3 * n, []⟩
 | 0, s, h, hn, hp => by
  refine .done ?_
  unfold Fm.act
  rw [if_pos (by rw [pat_len]; omega), exec]
  rw [show s.st.length = n by omega]
 | k + 1, s, h, hn, hp => by
  obtain ⟨q1, q2, q3⟩ := deep_at a n s.st.length (by omega)
  rw [← hp] at q1 q2 q3
  have hs := deep_step (g := 1000 - 3 * s.st.length) q1 q2 (by omega)
  have ih := deep_ok a n k { push s (Ps.beN (cut ((pat a (2 * n)).drop (s.pc + 1)) 0 1)) with pc := Co.nxt (pat a (2 * n)) s.pc } (by simp only [push, List.length_cons]; omega) hn (by simp only [push, List.length_cons]; exact q3)
  simp only [push, List.length_cons] at ih
  refine .next (g' := 1000 - 3 * (s.st.length + 1)) ?_ ih
  rw [hs]
  unfold nx
  rw [exec_pn (by omega)]
  congr 1
theorem deep_no (a : UInt8) (n : Nat) (hn : 64 < n) : ∀ (k : Nat) (s : MS), s.st.length + k = 64 → s.pc = 2 * s.st.length → Runs 10 14 (Fm.act (pat a (2 * n)) []) s (1000 - 3 * s.st.length) ⟨7, 0, []⟩
 | 0, s, h, hp => by
  refine .done ?_
  obtain ⟨q1, q2, q3⟩ := deep_at a n s.st.length (by omega)
  rw [← hp] at q1 q2 q3
  rw [deep_full q1 q2 (by omega)]
  rfl
 | k + 1, s, h, hp => by
  obtain ⟨q1, q2, q3⟩ := deep_at a n s.st.length (by omega)
  rw [← hp] at q1 q2 q3
  have hs := deep_step (g := 1000 - 3 * s.st.length) q1 q2 (by omega)
  have ih := deep_no a n hn k { push s (Ps.beN (cut ((pat a (2 * n)).drop (s.pc + 1)) 0 1)) with pc := Co.nxt (pat a (2 * n)) s.pc } (by simp only [push, List.length_cons]; omega) (by simp only [push, List.length_cons]; exact q3)
  simp only [push, List.length_cons] at ih
  refine .next (g' := 1000 - 3 * (s.st.length + 1)) ?_ ih
  rw [hs]
  unfold nx
  rw [exec_pn (by omega)]
  congr 1
theorem deep_run (a : UInt8) (n : Nat) : Fm.run (pat a (2 * n)) [] 1000 (if n ≤ 64 then ⟨0, 1000 - 3 * n, []⟩ else ⟨7, 0, []⟩) := by
 split
 ·exact deep_ok a n n S0 (by simp) (by assumption) rfl
 ·exact deep_no a n (by omega) 64 S0 rfl rfl
end Lf
end Go.Proofs.YtffaobngpbaklaaGreatDoor

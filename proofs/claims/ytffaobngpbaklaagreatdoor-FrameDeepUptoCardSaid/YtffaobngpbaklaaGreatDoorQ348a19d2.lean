/- A part of the proof: texts joined. -/
import Derived.Test.YtffaobngpbaklaaGreatDoorQ333dcd26
set_option linter.unusedVariables false
set_option linter.unusedSimpArgs false
namespace Go.Proofs.YtffaobngpbaklaaGreatDoor
open Go.RowKit Rg Wm Ar
set_option maxRecDepth 100000
namespace Lf
open Fm FrP Fw
abbrev frOf (c inp : List UInt8) (s : MS) (g : Nat) (o : List UInt8) : Mem := frM c inp g s.m.gen s.m.l s.sg s.st s.pc o
structure Inv (c : List UInt8) (s : MS) : Prop where
 m : My.Good s.m.l
 st : s.st.length ≤ 64
 pc : s.pc ≤ c.length
abbrev stepM (c inp : List UInt8) (s : MS) (g : Nat) (R : Out → Mem → Prop) : Prop := LM Tryz.prog 44 [.p 1000 0, .i 64 (.a [])] (frOf c inp s g []) R
def StpF (c inp : List UInt8) (s : MS) (g : Nat) : FrP.Go MS → Prop
 | .next s' g' => (stepM c inp s g fun q m => q = .ret (boV true) ∧ m = frOf c inp s' g' []) ∧ Inv c s'
 | .done r => (r.err = 0 ∧ ∃ s', (stepM c inp s g fun q m => q = .ret (boV false) ∧ m = frOf c inp s' r.gas r.out) ∧ r.out.length ≤ 4096) ∨ (r.err ≠ 0 ∧ ∃ s' g' o', (stepM c inp s g fun q m => q = .pan (fltV (r.err : Nat)) ∧ m = frOf c inp s' g' o') ∧ (r.err = 14 → g' = r.gas ∧ o' = r.out) ∧ (r.err ≠ 14 → r.gas = 0 ∧ r.out = []) ∧ r.out.length ≤ 4096)
theorem stp_fail {c inp : List UInt8} {s : MS} {g : Nat} (e : Nat) (he : e ≠ 0) (he2 : e ≠ 14) (s' : MS) (g' : Nat) (o' : List UInt8) (h : stepM c inp s g fun q m => q = .pan (fltV (e : Nat)) ∧ m = frOf c inp s' g' o') : StpF c inp s g (.done ⟨e, 0, []⟩) :=
 .inr ⟨he, s', g', o', h, fun k => absurd k he2, fun _ => ⟨rfl, rfl⟩, Nat.zero_le _⟩
theorem touch_cases {G : FrP.Go MS → Prop} {s : MS} {a n mul g2 : Nat} {k : MS → FrP.Act MS} (hG : My.Good s.m.l)
  (Hm : My.need s.m.l.length (a % M256) (n % M256) = none → G (.done ⟨6, 0, []⟩))
  (Hg : ∀ z, 0 < n % M256 → My.need s.m.l.length (a % M256) (n % M256) = some z → g2 < My.price s.m.l.length z + mul * words (n % M256) → G (.done ⟨10, 0, []⟩))
  (Hz : n % M256 = 0 → G (exec 10 14 (k s) g2))
  (Ho : ∀ z mg2 l2, 0 < n % M256 → My.need s.m.l.length (a % M256) (n % M256) = some z → My.grow s.m z = ⟨mg2, l2⟩ → (a % M256 + n % M256 ≤ l2.length ∧ l2.length ≤ 4096) → My.Good l2 → My.price s.m.l.length z + mul * words (n % M256) ≤ g2 → G (exec 10 14 (k { s with m := ⟨mg2, l2⟩ }) (g2 - (My.price s.m.l.length z + mul * words (n % M256))))) : G (exec 10 14 (touch s a n mul k) g2) := by
 unfold touch
 cases h : My.need s.m.l.length (a % M256) (n % M256) with
 | none => exact Hm h
 | some z =>
  show G (exec 10 14 (.pay _ _) g2)
  rw [exec]
  rcases Nat.eq_zero_or_pos (n % M256) with h0 | h0
  ·rw [need_z h0] at h
   cases h
   have e1 : My.price s.m.l.length s.m.l.length + mul * words (n % M256) = 0 := by
    rw [price_z, h0]; rfl
   rw [e1, if_neg (Nat.not_lt_zero _), Nat.sub_zero, grow_z]
   exact Hz h0
  ·by_cases hc : g2 < My.price s.m.l.length z + mul * words (n % M256)
   ·rw [if_pos hc]; exact Hg z h0 h hc
   ·rw [if_neg hc]
    obtain ⟨q1, q2, q3, q4⟩ := My.need_spec hG.le hG.m h
    have hl := My.grow_len (s := s.m) (m := z) q1
    cases hgr : My.grow s.m z with
    | mk mg2 l2 =>
     rw [hgr] at hl
     have hl : l2.length = z := hl
     exact Ho z mg2 l2 h0 h hgr ⟨by have := q4 h0; omega, by omega⟩ ⟨by omega, by rw [hl]; exact q3⟩ (Nat.le_of_not_lt hc)
theorem touch_cases0 {G : FrP.Go MS → Prop} {s : MS} {a n g2 : Nat} {k : MS → FrP.Act MS} (hG : My.Good s.m.l)
  (Hm : My.need s.m.l.length (a % M256) (n % M256) = none → G (.done ⟨6, 0, []⟩))
  (Hg : ∀ z, 0 < n % M256 → My.need s.m.l.length (a % M256) (n % M256) = some z → g2 < My.price s.m.l.length z → G (.done ⟨10, 0, []⟩))
  (Hz : n % M256 = 0 → G (exec 10 14 (k s) g2))
  (Ho : ∀ z mg2 l2, 0 < n % M256 → My.need s.m.l.length (a % M256) (n % M256) = some z → My.grow s.m z = ⟨mg2, l2⟩ → (a % M256 + n % M256 ≤ l2.length ∧ l2.length ≤ 4096) → My.Good l2 → My.price s.m.l.length z ≤ g2 → G (exec 10 14 (k { s with m := ⟨mg2, l2⟩ }) (g2 - My.price s.m.l.length z))) : G (exec 10 14 (touch s a n 0 k) g2) := by
 refine touch_cases hG Hm (fun z h0 h hc => Hg z h0 h (by rw [Nat.zero_mul] at hc; exact hc)) Hz fun z mg2 l2 h0 h hg hl hG2 hc => ?_
 rw [Nat.zero_mul, Nat.add_zero] at hc ⊢
 exact Ho z mg2 l2 h0 h hg hl hG2 hc
theorem sub_no {L M : List Nat} {n : Nat} (h : L.contains n = false) (hs : (M.all fun k => L.contains k) = true) : M.contains n = false := by
 cases hm : M.contains n with
 | false => rfl
 | true =>
  rw [List.contains_iff_mem] at hm
  have := List.all_eq_true.1 hs n hm
  rw [h] at this; cases this
theorem one_of {st : List Nat} (h : ¬ st.length < 1) : ∃ a r, st = a :: r := by
 cases st with
 | nil => exact absurd Nat.zero_lt_one h
 | cons a r => exact ⟨a, r, rfl⟩
theorem two_of {st : List Nat} (h : ¬ st.length < 2) : ∃ a b r, st = a :: b :: r := by
 obtain ⟨a, r, rfl⟩ := one_of (st := st) (by omega)
 obtain ⟨b, r, rfl⟩ := one_of (st := r) (by simp only [List.length_cons] at h; omega)
 exact ⟨a, b, r, rfl⟩
theorem three_of {st : List Nat} (h : ¬ st.length < 3) : ∃ a b d r, st = a :: b :: d :: r := by
 obtain ⟨a, b, r, rfl⟩ := two_of (st := st) (by omega)
 obtain ⟨d, r, rfl⟩ := one_of (st := r) (by simp only [List.length_cons] at h; omega)
 exact ⟨a, b, d, r, rfl⟩
theorem view0 (l : List UInt8) (a : Nat) : My.view l a 0 = [] := by unfold My.view; exact List.take_zero ..
theorem frL_eq {c inp : List UInt8} {g mg n : Nat} {l : List UInt8} {sg : Nat} {st : List Nat} {pc : Nat} {o : List UInt8} (h : l.length = n) : frL c inp g mg n l sg st pc o = frM c inp g mg l sg st pc o := by subst h; rfl
def twoL : List Nat := [1, 2, 3, 4, 6, 5, 7, 11, 16, 17, 18, 19, 20, 22, 23, 24, 26, 27, 28, 29]
theorem two_out {n a b : Nat} (h : twoL.contains n = false) : two n a b = none := by
 have ne : ∀ k, twoL.contains k = true → n ≠ k := fun k hk e => by subst e; rw [h] at hk; cases hk
 unfold Fm.two
 rw [if_neg (ne 1 rfl), if_neg (ne 2 rfl), if_neg (ne 3 rfl), if_neg (ne 4 rfl), if_neg (ne 6 rfl), if_neg (ne 5 rfl), if_neg (ne 7 rfl), if_neg (ne 11 rfl), if_neg (ne 16 rfl), if_neg (ne 17 rfl), if_neg (ne 18 rfl), if_neg (ne 19 rfl), if_neg (ne 20 rfl), if_neg (ne 22 rfl), if_neg (ne 23 rfl), if_neg (ne 24 rfl), if_neg (ne 26 rfl), if_neg (ne 27 rfl), if_neg (ne 28 rfl), if_neg (ne 29 rfl)]
theorem two_in {n a b : Nat} (h : twoL.contains n = true) : ∃ x, two n a b = some x := by
 rw [List.contains_iff_mem] at h
 simp only [twoL, List.mem_cons, List.not_mem_nil, or_false] at h
 rcases h with rfl | rfl | rfl | rfl | rfl | rfl | rfl | rfl | rfl | rfl | rfl | rfl | rfl | rfl | rfl | rfl | rfl | rfl | rfl | rfl <;> exact ⟨_, rfl⟩
def metL : List Nat := [0, 242, 253, 86, 87, 91, 21, 25, 8, 9, 10, 80, 32, 52, 54, 81, 82, 83]
theorem all_met : ((List.range 256).all fun n => (Cn.name n).isEmpty || (ofW n || (metL.contains n || ((Nat.ble 96 n && Nat.blt n 160) || (([53, 55, 88, 89, 90] : List Nat).contains n || (twoL.contains n && (Nat.beq (cnt n).1 2 && Nat.beq (cnt n).2 1))))))) = true := by decide +kernel
theorem met {n : Nat} (hn : n < 256) (h1 : ¬ Cn.name n = []) (h2 : ofW n = false) (h3 : metL.contains n = false) (h4 : ¬ (96 ≤ n ∧ n < 160)) (h5 : ([53, 55, 88, 89, 90] : List Nat).contains n = false) : twoL.contains n = true ∧ (cnt n).1 = 2 ∧ (cnt n).2 = 1 := by
 have := List.all_eq_true.1 all_met n (List.mem_range.2 hn)
 simp only [Bool.or_eq_true, Bool.and_eq_true, h2, h3, h5, Bool.false_eq_true, false_or] at this
 rcases this with h | ⟨h, h'⟩ | ⟨h, h', h''⟩
 ·exact absurd (List.isEmpty_iff.1 h) h1
 ·exact absurd ⟨Nat.le_of_ble_eq_true h, Nat.le_of_lt_succ (Nat.succ_lt_succ (Nat.le_of_ble_eq_true h'))⟩ h4
 ·exact ⟨h, Nat.eq_of_beq_eq_true h', Nat.eq_of_beq_eq_true h''⟩
namespace Fw
section
variable {c inp : List UInt8} {g g2 mg : Nat} {l : List UInt8} {sg : Nat} {st : List Nat} {pc : Nat} {o : List UInt8}
theorem reckon_no (n : Nat) (hn : n < 256) (hc : ([21, 25, 8, 9, 10, 80] : List Nat).contains n = false) (hr : ¬ (128 ≤ n ∧ n < 160)) (h2 : twoL.contains n = false) (hs : st.length ≤ 900) : LM Tryz.prog 67 [.p 1000 0, .k (.int .u8 ((n : Nat) : Int))] (frM c inp g mg l sg st pc o) fun q m => q = .ret (boV false) ∧ m = frM c inp g mg l sg st pc o := by
 refine reckon_else c inp g mg l sg sg st st pc o n hc false ?_
 by_cases hl : st.length < 2
 ·exact shuffle_few c inp g mg l sg st pc o n hn hr hl
 ·obtain ⟨a, b, r, rfl⟩ := two_of hl
  exact shuffle_not c inp g mg l sg r pc o a b n hn hr (by simp only [List.length_cons] at hs; omega) (two_out h2)
abbrev ckH (c inp : List UInt8) (g g2 mg : Nat) (l : List UInt8) (sg : Nat) (st : List Nat) (pc : Nat) (o : List UInt8) : Prop := LM Tryz.prog 60 [.p 1000 0, bK (c.getD pc default), boV true] (frM c inp g mg l sg st pc o) fun q m => q = .ret (.t []) ∧ m = frM c inp g2 mg l sg st pc o
theorem a_reckon {n : Nat} (hx : (c.getD pc default).toNat = n) (hp : pc < c.length) (hcl : c.length < 1000000000) (hcx : ([0, 242, 253, 86, 87, 91] : List Nat).contains n = false) (hnp : ¬ (96 ≤ n ∧ n < 128)) (hck : ckH c inp g g2 mg l sg st pc o) {g3 mg3 : Nat} {l3 : List UInt8} {sg3 : Nat} {st3 : List Nat} (hb : LM Tryz.prog 67 [.p 1000 0, .k (.int .u8 ((n : Nat) : Int))] (frM c inp g2 mg l sg st pc o) fun q m => q = .ret (boV true) ∧ m = frM c inp g3 mg3 l3 sg3 st3 pc o) :
  LM Tryz.prog 44 [.p 1000 0, .i 64 (.a [])] (frM c inp g mg l sg st pc o) fun q m => q = .ret (boV true) ∧ m = frM c inp g3 mg3 l3 sg3 st3 (Co.nxt c pc) o := by
 subst hx; exact step_reckon c inp g g2 mg l sg st pc o hp hcl hcx hnp hck g3 mg3 l3 sg3 st3 hb
theorem a_reckonP {n : Nat} (hx : (c.getD pc default).toNat = n) (hp : pc < c.length) (hcl : c.length < 1000000000) (hcx : ([0, 242, 253, 86, 87, 91] : List Nat).contains n = false) (hnp : ¬ (96 ≤ n ∧ n < 128)) (hck : ckH c inp g g2 mg l sg st pc o) {e : Int} {g3 mg3 : Nat} {l3 : List UInt8} {sg3 : Nat} {st3 : List Nat} (hb : LM Tryz.prog 67 [.p 1000 0, .k (.int .u8 ((n : Nat) : Int))] (frM c inp g2 mg l sg st pc o) fun q m => q = .pan (fltV e) ∧ m = frM c inp g3 mg3 l3 sg3 st3 pc o) :
  LM Tryz.prog 44 [.p 1000 0, .i 64 (.a [])] (frM c inp g mg l sg st pc o) fun q m => q = .pan (fltV e) ∧ m = frM c inp g3 mg3 l3 sg3 st3 pc o := by
 subst hx; exact step_reckon_pan c inp g g2 mg l sg st pc o hp hcl hcx hnp hck e g3 mg3 l3 sg3 st3 hb
theorem a_keep {n : Nat} (hx : (c.getD pc default).toNat = n) (hp : pc < c.length) (hcl : c.length < 1000000000) (hcx : ([0, 242, 253, 86, 87, 91, 21, 25, 8, 9, 10, 80] : List Nat).contains n = false) (hnp : ¬ (96 ≤ n ∧ n < 160)) (h2 : twoL.contains n = false) (hs : st.length ≤ 900) (hck : ckH c inp g g2 mg l sg st pc o) {g3 mg3 : Nat} {l3 : List UInt8} {sg3 : Nat} {st3 : List Nat} (hb : LM Tryz.prog 68 [.p 1000 0, .k (.int .u8 ((n : Nat) : Int))] (frM c inp g2 mg l sg st pc o) fun q m => q = .ret (boV true) ∧ m = frM c inp g3 mg3 l3 sg3 st3 pc o) :
  LM Tryz.prog 44 [.p 1000 0, .i 64 (.a [])] (frM c inp g mg l sg st pc o) fun q m => q = .ret (boV true) ∧ m = frM c inp g3 mg3 l3 sg3 st3 (Co.nxt c pc) o := by
 have hn := (c.getD pc default).toNat_lt
 subst hx
 exact step_keep c inp g g2 mg l sg st pc o hp hcl (sub_no hcx (by decide)) (by omega) hck (reckon_no _ hn (sub_no hcx (by decide)) (by omega) h2 hs) g3 mg3 l3 sg3 st3 hb
theorem a_keepP {n : Nat} (hx : (c.getD pc default).toNat = n) (hp : pc < c.length) (hcl : c.length < 1000000000) (hcx : ([0, 242, 253, 86, 87, 91, 21, 25, 8, 9, 10, 80] : List Nat).contains n = false) (hnp : ¬ (96 ≤ n ∧ n < 160)) (h2 : twoL.contains n = false) (hs : st.length ≤ 900) (hck : ckH c inp g g2 mg l sg st pc o) {e : Int} {g3 mg3 : Nat} {l3 : List UInt8} {sg3 : Nat} {st3 : List Nat} (hb : LM Tryz.prog 68 [.p 1000 0, .k (.int .u8 ((n : Nat) : Int))] (frM c inp g2 mg l sg st pc o) fun q m => q = .pan (fltV e) ∧ m = frM c inp g3 mg3 l3 sg3 st3 pc o) :
  LM Tryz.prog 44 [.p 1000 0, .i 64 (.a [])] (frM c inp g mg l sg st pc o) fun q m => q = .pan (fltV e) ∧ m = frM c inp g3 mg3 l3 sg3 st3 pc o := by
 have hn := (c.getD pc default).toNat_lt
 subst hx
 exact step_keep_pan c inp g g2 mg l sg st pc o hp hcl (sub_no hcx (by decide)) (by omega) hck (reckon_no _ hn (sub_no hcx (by decide)) (by omega) h2 hs) e g3 mg3 l3 sg3 st3 hb
theorem a_tell {n : Nat} (hx : (c.getD pc default).toNat = n) (hp : pc < c.length) (hcl : c.length < 1000000000) (hcx : metL.contains n = false) (hnp : ¬ (96 ≤ n ∧ n < 160)) (h2 : twoL.contains n = false) (hs : st.length ≤ 900) (hck : ckH c inp g g2 mg l sg st pc o) {g3 mg3 : Nat} {l3 : List UInt8} {sg3 : Nat} {st3 : List Nat} (hb : LM Tryz.prog 69 [.p 1000 0, .k (.int .u8 ((n : Nat) : Int))] (frM c inp g2 mg l sg st pc o) fun q m => q = .ret (boV true) ∧ m = frM c inp g3 mg3 l3 sg3 st3 pc o) :
  LM Tryz.prog 44 [.p 1000 0, .i 64 (.a [])] (frM c inp g mg l sg st pc o) fun q m => q = .ret (boV true) ∧ m = frM c inp g3 mg3 l3 sg3 st3 (Co.nxt c pc) o := by
 have hn := (c.getD pc default).toNat_lt
 subst hx
 exact step_tell c inp g g2 mg l sg st pc o hp hcl (sub_no hcx (by decide)) (by omega) hck (reckon_no _ hn (sub_no hcx (by decide)) (by omega) h2 hs) (keep_else c inp g2 mg l sg st pc o _ (sub_no hcx (by decide))) g3 mg3 l3 sg3 st3 hb
end
end Fw
end Lf
set_option linter.unusedVariables false
open Go.RowKit Rg Wm Ar
set_option maxRecDepth 100000
namespace Lf
open Fm FrP Fw
section
variable {c inp : List UInt8} {s s' : MS} {g g' : Nat} {o' : List UInt8}
theorem stp_next (h : stepM c inp s g fun q m => q = .ret (boV true) ∧ m = frOf c inp s' g' []) (hi : Inv c s') : StpF c inp s g (.next s' g') := ⟨h, hi⟩
theorem stp_stop (h : stepM c inp s g fun q m => q = .ret (boV false) ∧ m = frOf c inp s' g' o') (hl : o'.length ≤ 4096) : StpF c inp s g (.done ⟨0, g', o'⟩) := .inl ⟨rfl, s', h, hl⟩
theorem stp_rev (h : stepM c inp s g fun q m => q = .pan (fltV 14) ∧ m = frOf c inp s' g' o') (hl : o'.length ≤ 4096) : StpF c inp s g (.done ⟨14, g', o'⟩) := .inr ⟨(show (14 : Nat) ≠ 0 by decide), s', g', o', h, fun _ => ⟨rfl, rfl⟩, fun k => absurd rfl k, hl⟩
end
theorem eff_0 {c inp : List UInt8} {g g2 mg : Nat} {l : List UInt8} {sg : Nat} {st : List Nat} {pc : Nat} (hcl : c.length < 100000000) (hi : inp.length < 1073741824) (hG : My.Good l) (hst : st.length ≤ 64) (hp : pc < c.length) (hg2 : g2 < 18446744073709551616) (hx : (c.getD pc default).toNat = 0) (h3 : ¬ st.length < (cnt 0).1) (h4 : ¬ 64 < st.length - (cnt 0).1 + (cnt 0).2) (hck : ckH c inp g g2 mg l sg st pc []) : StpF c inp ⟨⟨mg, l⟩, sg, st, pc⟩ g (exec 10 14 (eff c inp 0 ⟨⟨mg, l⟩, sg, st, pc⟩ g2) g2) := by
 have hle := Co.nxt_le c pc
 exact stp_stop (s' := ⟨⟨mg, l⟩, sg, st, pc⟩) (step_0 c inp g g2 mg l sg st pc [] hp (by omega) hx hck) (Nat.zero_le _)
theorem eff_91 {c inp : List UInt8} {g g2 mg : Nat} {l : List UInt8} {sg : Nat} {st : List Nat} {pc : Nat} (hcl : c.length < 100000000) (hi : inp.length < 1073741824) (hG : My.Good l) (hst : st.length ≤ 64) (hp : pc < c.length) (hg2 : g2 < 18446744073709551616) (hx : (c.getD pc default).toNat = 91) (h3 : ¬ st.length < (cnt 91).1) (h4 : ¬ 64 < st.length - (cnt 91).1 + (cnt 91).2) (hck : ckH c inp g g2 mg l sg st pc []) : StpF c inp ⟨⟨mg, l⟩, sg, st, pc⟩ g (exec 10 14 (eff c inp 91 ⟨⟨mg, l⟩, sg, st, pc⟩ g2) g2) := by
 have hle := Co.nxt_le c pc
 exact stp_next (step_91 c inp g g2 mg l sg st pc [] hp (by omega) hx hck) ⟨hG, hst, hle⟩
theorem eff_242 {c inp : List UInt8} {g g2 mg : Nat} {l : List UInt8} {sg : Nat} {st : List Nat} {pc : Nat} (hcl : c.length < 100000000) (hi : inp.length < 1073741824) (hG : My.Good l) (hst : st.length ≤ 64) (hp : pc < c.length) (hg2 : g2 < 18446744073709551616) (hx : (c.getD pc default).toNat = 242) (h3 : ¬ st.length < (cnt 242).1) (h4 : ¬ 64 < st.length - (cnt 242).1 + (cnt 242).2) (hck : ckH c inp g g2 mg l sg st pc []) : StpF c inp ⟨⟨mg, l⟩, sg, st, pc⟩ g (exec 10 14 (eff c inp 242 ⟨⟨mg, l⟩, sg, st, pc⟩ g2) g2) := by
 have hle := Co.nxt_le c pc
 obtain ⟨a, b, r, rfl⟩ := two_of h3
 have hr : r.length ≤ 900 := by simp only [List.length_cons] at hst; omega
 refine touch_cases0 (G := StpF c inp ⟨⟨mg, l⟩, sg, a :: b :: r, pc⟩ g) (s := ⟨⟨mg, l⟩, sg, r, pc⟩) (a := a) (n := b) (k := fun s => .stop (My.view s.m.l (a % M256) (b % M256))) hG ?_ ?_ ?_ ?_
 ·intro h
  exact stp_fail 6 (by decide) (by decide) ⟨⟨mg, l⟩, sg, r, pc⟩ g2 [] (step_242much c inp g g2 mg l sg r pc [] a b hp (by omega) hx hck hr hG.le hg2 h)
 ·intro z h0 h hc
  exact stp_fail 10 (by decide) (by decide) ⟨⟨mg, l⟩, sg, r, pc⟩ g2 [] (step_242gas c inp g g2 mg l sg r pc [] a b hp (by omega) hx hck z hr hG.le hg2 h0 h hc)
 ·intro h0
  have h := step_242z c inp g g2 mg l sg r pc [] a b hp (by omega) hx hck hr hG.le hg2 h0
  show StpF c inp _ g (.done ⟨_, _, My.view l (a % M256) (b % M256)⟩)
  rw [h0, view0]
  exact stp_stop (s' := ⟨⟨mg, l⟩, sg, r, pc⟩) h (Nat.zero_le _)
 ·intro z mg2 l2 h0 h hgr hl2 hG2 hc
  exact stp_stop (s' := ⟨⟨mg2, l2⟩, sg, r, pc⟩) (step_242 c inp g g2 mg l sg r pc [] a b hp (by omega) hx hck z mg2 l2 hr hG.le hg2 h0 h hgr hl2 hc) (by rw [view_len hl2.1]; have := hl2.2; omega)
theorem eff_253 {c inp : List UInt8} {g g2 mg : Nat} {l : List UInt8} {sg : Nat} {st : List Nat} {pc : Nat} (hcl : c.length < 100000000) (hi : inp.length < 1073741824) (hG : My.Good l) (hst : st.length ≤ 64) (hp : pc < c.length) (hg2 : g2 < 18446744073709551616) (hx : (c.getD pc default).toNat = 253) (h3 : ¬ st.length < (cnt 253).1) (h4 : ¬ 64 < st.length - (cnt 253).1 + (cnt 253).2) (hck : ckH c inp g g2 mg l sg st pc []) : StpF c inp ⟨⟨mg, l⟩, sg, st, pc⟩ g (exec 10 14 (eff c inp 253 ⟨⟨mg, l⟩, sg, st, pc⟩ g2) g2) := by
 have hle := Co.nxt_le c pc
 obtain ⟨a, b, r, rfl⟩ := two_of h3
 have hr : r.length ≤ 900 := by simp only [List.length_cons] at hst; omega
 refine touch_cases0 (G := StpF c inp ⟨⟨mg, l⟩, sg, a :: b :: r, pc⟩ g) (s := ⟨⟨mg, l⟩, sg, r, pc⟩) (a := a) (n := b) (k := fun s => .rev (My.view s.m.l (a % M256) (b % M256))) hG ?_ ?_ ?_ ?_
 ·intro h
  exact stp_fail 6 (by decide) (by decide) ⟨⟨mg, l⟩, sg, r, pc⟩ g2 [] (step_253much c inp g g2 mg l sg r pc [] a b hp (by omega) hx hck hr hG.le hg2 h)
 ·intro z h0 h hc
  exact stp_fail 10 (by decide) (by decide) ⟨⟨mg, l⟩, sg, r, pc⟩ g2 [] (step_253gas c inp g g2 mg l sg r pc [] a b hp (by omega) hx hck z hr hG.le hg2 h0 h hc)
 ·intro h0
  have h := step_253z c inp g g2 mg l sg r pc [] a b hp (by omega) hx hck hr hG.le hg2 h0
  show StpF c inp _ g (.done ⟨_, _, My.view l (a % M256) (b % M256)⟩)
  rw [h0, view0]
  exact stp_rev (s' := ⟨⟨mg, l⟩, sg, r, pc⟩) h (Nat.zero_le _)
 ·intro z mg2 l2 h0 h hgr hl2 hG2 hc
  exact stp_rev (s' := ⟨⟨mg2, l2⟩, sg, r, pc⟩) (step_253 c inp g g2 mg l sg r pc [] a b hp (by omega) hx hck z mg2 l2 hr hG.le hg2 h0 h hgr hl2 hc) (by rw [view_len hl2.1]; have := hl2.2; omega)
theorem eff_86 {c inp : List UInt8} {g g2 mg : Nat} {l : List UInt8} {sg : Nat} {st : List Nat} {pc : Nat} (hcl : c.length < 100000000) (hi : inp.length < 1073741824) (hG : My.Good l) (hst : st.length ≤ 64) (hp : pc < c.length) (hg2 : g2 < 18446744073709551616) (hx : (c.getD pc default).toNat = 86) (h3 : ¬ st.length < (cnt 86).1) (h4 : ¬ 64 < st.length - (cnt 86).1 + (cnt 86).2) (hck : ckH c inp g g2 mg l sg st pc []) : StpF c inp ⟨⟨mg, l⟩, sg, st, pc⟩ g (exec 10 14 (eff c inp 86 ⟨⟨mg, l⟩, sg, st, pc⟩ g2) g2) := by
 have hle := Co.nxt_le c pc
 obtain ⟨a, r, rfl⟩ := one_of h3
 have hr : r.length ≤ 900 := by simp only [List.length_cons] at hst; omega
 show StpF c inp _ g (exec 10 14 (jmp c ⟨⟨mg, l⟩, sg, r, pc⟩ a) g2)
 unfold jmp
 by_cases h : a % M256 ∈ Co.lands c
 ·rw [if_pos h]
  exact stp_next (s' := ⟨⟨mg, l⟩, sg, r, a % M256⟩) (step_86ok c inp g g2 mg l sg r pc [] a hp (by omega) hr hx hck h) ⟨hG, by show List.length r ≤ 64; simp only [List.length_cons] at hst; omega, Nat.le_of_lt (lands_lt h)⟩
 ·rw [if_neg h]
  exact stp_fail 8 (by decide) (by decide) ⟨⟨mg, l⟩, sg, r, pc⟩ g2 [] (step_86no c inp g g2 mg l sg r pc [] a hp (by omega) hr hx hck h)
theorem eff_87 {c inp : List UInt8} {g g2 mg : Nat} {l : List UInt8} {sg : Nat} {st : List Nat} {pc : Nat} (hcl : c.length < 100000000) (hi : inp.length < 1073741824) (hG : My.Good l) (hst : st.length ≤ 64) (hp : pc < c.length) (hg2 : g2 < 18446744073709551616) (hx : (c.getD pc default).toNat = 87) (h3 : ¬ st.length < (cnt 87).1) (h4 : ¬ 64 < st.length - (cnt 87).1 + (cnt 87).2) (hck : ckH c inp g g2 mg l sg st pc []) : StpF c inp ⟨⟨mg, l⟩, sg, st, pc⟩ g (exec 10 14 (eff c inp 87 ⟨⟨mg, l⟩, sg, st, pc⟩ g2) g2) := by
 have hle := Co.nxt_le c pc
 obtain ⟨a, b, r, rfl⟩ := two_of h3
 have hr : r.length ≤ 900 := by simp only [List.length_cons] at hst; omega
 by_cases h0 : b % M256 = 0
 ·show StpF c inp _ g (exec 10 14 (if b % M256 = 0 then nx c _ else _) g2)
  rw [if_pos h0]
  exact stp_next (s' := ⟨⟨mg, l⟩, sg, r, Co.nxt c pc⟩) (step_87z c inp g g2 mg l sg r pc [] a hp (by omega) hr b hx hck h0) ⟨hG, by show List.length r ≤ 64; simp only [List.length_cons] at hst; omega, hle⟩
 show StpF c inp _ g (exec 10 14 (if b % M256 = 0 then _ else jmp c _ a) g2)
 rw [if_neg h0]
 show StpF c inp _ g (exec 10 14 (jmp c ⟨⟨mg, l⟩, sg, r, pc⟩ a) g2)
 unfold jmp
 by_cases h : a % M256 ∈ Co.lands c
 ·rw [if_pos h]
  exact stp_next (s' := ⟨⟨mg, l⟩, sg, r, a % M256⟩) (step_87ok c inp g g2 mg l sg r pc [] a hp (by omega) hr b hx hck h0 h) ⟨hG, by show List.length r ≤ 64; simp only [List.length_cons] at hst; omega, Nat.le_of_lt (lands_lt h)⟩
 ·rw [if_neg h]
  exact stp_fail 8 (by decide) (by decide) ⟨⟨mg, l⟩, sg, r, pc⟩ g2 [] (step_87no c inp g g2 mg l sg r pc [] a hp (by omega) hr b hx hck h0 h)
theorem eff_push {c inp : List UInt8} {g g2 mg : Nat} {l : List UInt8} {sg : Nat} {st : List Nat} {pc : Nat} (hcl : c.length < 100000000) (hi : inp.length < 1073741824) (hG : My.Good l) (hst : st.length ≤ 64) (hp : pc < c.length) (hg2 : g2 < 18446744073709551616) (n : Nat) (hx : (c.getD pc default).toNat = n) (h1 : 96 ≤ n) (h2 : n < 128) (h4 : ¬ 64 < st.length - (cnt n).1 + (cnt n).2) (hck : ckH c inp g g2 mg l sg st pc []) : StpF c inp ⟨⟨mg, l⟩, sg, st, pc⟩ g (exec 10 14 (nx c (push ⟨⟨mg, l⟩, sg, st, pc⟩ (Ps.beN (cut (c.drop (pc + 1)) 0 (n - 95))))) g2) := by
 have hle := Co.nxt_le c pc
 have e : cnt n = (0, 1) := if_pos ⟨h1, h2⟩
 rw [e] at h4
 subst hx
 exact stp_next (step_push c inp g g2 mg l sg st pc [] hp (by omega) h1 h2 hck (by omega)) ⟨hG, by show List.length (_ :: st) ≤ 64; simp only [List.length_cons] at h4 ⊢; omega, hle⟩
theorem eff_21 {c inp : List UInt8} {g g2 mg : Nat} {l : List UInt8} {sg : Nat} {st : List Nat} {pc : Nat} (hcl : c.length < 100000000) (hi : inp.length < 1073741824) (hG : My.Good l) (hst : st.length ≤ 64) (hp : pc < c.length) (hg2 : g2 < 18446744073709551616) (hx : (c.getD pc default).toNat = 21) (h3 : ¬ st.length < (cnt 21).1) (h4 : ¬ 64 < st.length - (cnt 21).1 + (cnt 21).2) (hck : ckH c inp g g2 mg l sg st pc []) : StpF c inp ⟨⟨mg, l⟩, sg, st, pc⟩ g (exec 10 14 (eff c inp 21 ⟨⟨mg, l⟩, sg, st, pc⟩ g2) g2) := by
 have hle := Co.nxt_le c pc
 obtain ⟨a, r, rfl⟩ := one_of h3
 have hr : r.length ≤ 900 := by simp only [List.length_cons] at hst; omega
 exact stp_next (s' := ⟨⟨mg, l⟩, _, _, Co.nxt c pc⟩) (a_reckon hx hp (by omega) rfl (by omega) hck (reckon_21 c inp g2 mg l sg r pc [] a (by omega))) ⟨hG, by show List.length (_ :: r) ≤ 64; simp only [List.length_cons] at hst ⊢; omega, hle⟩
theorem eff_25 {c inp : List UInt8} {g g2 mg : Nat} {l : List UInt8} {sg : Nat} {st : List Nat} {pc : Nat} (hcl : c.length < 100000000) (hi : inp.length < 1073741824) (hG : My.Good l) (hst : st.length ≤ 64) (hp : pc < c.length) (hg2 : g2 < 18446744073709551616) (hx : (c.getD pc default).toNat = 25) (h3 : ¬ st.length < (cnt 25).1) (h4 : ¬ 64 < st.length - (cnt 25).1 + (cnt 25).2) (hck : ckH c inp g g2 mg l sg st pc []) : StpF c inp ⟨⟨mg, l⟩, sg, st, pc⟩ g (exec 10 14 (eff c inp 25 ⟨⟨mg, l⟩, sg, st, pc⟩ g2) g2) := by
 have hle := Co.nxt_le c pc
 obtain ⟨a, r, rfl⟩ := one_of h3
 have hr : r.length ≤ 900 := by simp only [List.length_cons] at hst; omega
 exact stp_next (s' := ⟨⟨mg, l⟩, _, _, Co.nxt c pc⟩) (a_reckon hx hp (by omega) rfl (by omega) hck (reckon_25 c inp g2 mg l sg r pc [] a (by omega))) ⟨hG, by show List.length (_ :: r) ≤ 64; simp only [List.length_cons] at hst ⊢; omega, hle⟩
theorem eff_8 {c inp : List UInt8} {g g2 mg : Nat} {l : List UInt8} {sg : Nat} {st : List Nat} {pc : Nat} (hcl : c.length < 100000000) (hi : inp.length < 1073741824) (hG : My.Good l) (hst : st.length ≤ 64) (hp : pc < c.length) (hg2 : g2 < 18446744073709551616) (hx : (c.getD pc default).toNat = 8) (h3 : ¬ st.length < (cnt 8).1) (h4 : ¬ 64 < st.length - (cnt 8).1 + (cnt 8).2) (hck : ckH c inp g g2 mg l sg st pc []) : StpF c inp ⟨⟨mg, l⟩, sg, st, pc⟩ g (exec 10 14 (eff c inp 8 ⟨⟨mg, l⟩, sg, st, pc⟩ g2) g2) := by
 have hle := Co.nxt_le c pc
 obtain ⟨a, b, d, r, rfl⟩ := three_of h3
 have hr : r.length ≤ 900 := by simp only [List.length_cons] at hst; omega
 exact stp_next (s' := ⟨⟨mg, l⟩, _, _, Co.nxt c pc⟩) (a_reckon hx hp (by omega) rfl (by omega) hck (reckon_8 c inp g2 mg l sg r pc [] a b d (by omega))) ⟨hG, by show List.length (_ :: r) ≤ 64; simp only [List.length_cons] at hst ⊢; omega, hle⟩
theorem eff_9 {c inp : List UInt8} {g g2 mg : Nat} {l : List UInt8} {sg : Nat} {st : List Nat} {pc : Nat} (hcl : c.length < 100000000) (hi : inp.length < 1073741824) (hG : My.Good l) (hst : st.length ≤ 64) (hp : pc < c.length) (hg2 : g2 < 18446744073709551616) (hx : (c.getD pc default).toNat = 9) (h3 : ¬ st.length < (cnt 9).1) (h4 : ¬ 64 < st.length - (cnt 9).1 + (cnt 9).2) (hck : ckH c inp g g2 mg l sg st pc []) : StpF c inp ⟨⟨mg, l⟩, sg, st, pc⟩ g (exec 10 14 (eff c inp 9 ⟨⟨mg, l⟩, sg, st, pc⟩ g2) g2) := by
 have hle := Co.nxt_le c pc
 obtain ⟨a, b, d, r, rfl⟩ := three_of h3
 have hr : r.length ≤ 900 := by simp only [List.length_cons] at hst; omega
 exact stp_next (s' := ⟨⟨mg, l⟩, _, _, Co.nxt c pc⟩) (a_reckon hx hp (by omega) rfl (by omega) hck (reckon_9 c inp g2 mg l sg r pc [] a b d (by omega))) ⟨hG, by show List.length (_ :: r) ≤ 64; simp only [List.length_cons] at hst ⊢; omega, hle⟩
theorem eff_80 {c inp : List UInt8} {g g2 mg : Nat} {l : List UInt8} {sg : Nat} {st : List Nat} {pc : Nat} (hcl : c.length < 100000000) (hi : inp.length < 1073741824) (hG : My.Good l) (hst : st.length ≤ 64) (hp : pc < c.length) (hg2 : g2 < 18446744073709551616) (hx : (c.getD pc default).toNat = 80) (h3 : ¬ st.length < (cnt 80).1) (h4 : ¬ 64 < st.length - (cnt 80).1 + (cnt 80).2) (hck : ckH c inp g g2 mg l sg st pc []) : StpF c inp ⟨⟨mg, l⟩, sg, st, pc⟩ g (exec 10 14 (eff c inp 80 ⟨⟨mg, l⟩, sg, st, pc⟩ g2) g2) := by
 have hle := Co.nxt_le c pc
 obtain ⟨a, r, rfl⟩ := one_of h3
 have hr : r.length ≤ 900 := by simp only [List.length_cons] at hst; omega
 exact stp_next (s' := ⟨⟨mg, l⟩, _, _, Co.nxt c pc⟩) (a_reckon hx hp (by omega) rfl (by omega) hck (reckon_80 c inp g2 mg l sg r pc [] a (by omega))) ⟨hG, by show List.length r ≤ 64; simp only [List.length_cons] at hst; omega, hle⟩
theorem eff_10 {c inp : List UInt8} {g g2 mg : Nat} {l : List UInt8} {sg : Nat} {st : List Nat} {pc : Nat} (hcl : c.length < 100000000) (hi : inp.length < 1073741824) (hG : My.Good l) (hst : st.length ≤ 64) (hp : pc < c.length) (hg2 : g2 < 18446744073709551616) (hx : (c.getD pc default).toNat = 10) (h3 : ¬ st.length < (cnt 10).1) (h4 : ¬ 64 < st.length - (cnt 10).1 + (cnt 10).2) (hck : ckH c inp g g2 mg l sg st pc []) : StpF c inp ⟨⟨mg, l⟩, sg, st, pc⟩ g (exec 10 14 (eff c inp 10 ⟨⟨mg, l⟩, sg, st, pc⟩ g2) g2) := by
 have hle := Co.nxt_le c pc
 obtain ⟨a, b, r, rfl⟩ := two_of h3
 have hr : r.length ≤ 900 := by simp only [List.length_cons] at hst; omega
 show StpF c inp _ g (exec 10 14 (.pay (10 * (Pk.numL (b % M256)).length) _) g2)
 rw [exec]
 by_cases hc : g2 < 10 * (Pk.numL (b % M256)).length
 ·rw [if_pos hc]
  exact stp_fail 10 (by decide) (by decide) ⟨⟨mg, l⟩, sg, r, pc⟩ g2 [] (a_reckonP hx hp (by omega) rfl (by omega) hck (reckon_10g c inp g2 mg l sg r pc [] a b (by omega) hc))
 ·rw [if_neg hc]
  exact stp_next (s' := ⟨⟨mg, l⟩, _, _, Co.nxt c pc⟩) (a_reckon hx hp (by omega) rfl (by omega) hck (reckon_10 c inp g2 mg l sg r pc [] a b (by omega) hg2 (Nat.le_of_not_lt hc))) ⟨hG, by show List.length (_ :: r) ≤ 64; simp only [List.length_cons] at hst ⊢; omega, hle⟩
theorem eff_dup {c inp : List UInt8} {g g2 mg : Nat} {l : List UInt8} {sg : Nat} {st : List Nat} {pc : Nat} (hcl : c.length < 100000000) (hi : inp.length < 1073741824) (hG : My.Good l) (hst : st.length ≤ 64) (hp : pc < c.length) (hg2 : g2 < 18446744073709551616) (n : Nat) (hx : (c.getD pc default).toNat = n) (h1 : 128 ≤ n) (h2 : n < 144) (h3 : ¬ st.length < (cnt n).1) (h4 : ¬ 64 < st.length - (cnt n).1 + (cnt n).2) (hcx : metL.contains n = false) (hck : ckH c inp g g2 mg l sg st pc []) : StpF c inp ⟨⟨mg, l⟩, sg, st, pc⟩ g (exec 10 14 (nx c (push ⟨⟨mg, l⟩, sg, st, pc⟩ (st.getD (n - 128) 0))) g2) := by
 have hle := Co.nxt_le c pc
 have e : cnt n = (n - 128 + 1, n - 128 + 1 + 1) := (if_neg (by omega)).trans (if_pos ⟨h1, h2⟩)
 rw [e] at h3 h4
 simp only at h3 h4
 exact stp_next (a_reckon hx hp (by omega) (sub_no hcx (by decide)) (by omega) hck (reckon_else c inp g2 mg l sg (sg + 1) st (st.getD (n - 128) 0 :: st) pc [] n (sub_no hcx (by decide)) true (dup c inp g2 mg l sg st pc [] n h1 h2 (by omega) (by omega)))) ⟨hG, by show List.length (_ :: st) ≤ 64; simp only [List.length_cons]; omega, hle⟩
theorem eff_swap {c inp : List UInt8} {g g2 mg : Nat} {l : List UInt8} {sg : Nat} {st : List Nat} {pc : Nat} (hcl : c.length < 100000000) (hi : inp.length < 1073741824) (hG : My.Good l) (hst : st.length ≤ 64) (hp : pc < c.length) (hg2 : g2 < 18446744073709551616) (n : Nat) (hx : (c.getD pc default).toNat = n) (h1 : 144 ≤ n) (h2 : n < 160) (h3 : ¬ st.length < (cnt n).1) (hcx : metL.contains n = false) (hck : ckH c inp g g2 mg l sg st pc []) : StpF c inp ⟨⟨mg, l⟩, sg, st, pc⟩ g (exec 10 14 (nx c ⟨⟨mg, l⟩, sg, (st.set 0 (st.getD (n - 143) 0)).set (n - 143) (st.getD 0 0), pc⟩) g2) := by
 have hle := Co.nxt_le c pc
 have e : cnt n = (n - 144 + 2, n - 144 + 2) := (if_neg (by omega)).trans ((if_neg (by omega)).trans (if_pos ⟨h1, h2⟩))
 rw [e] at h3
 simp only at h3
 exact stp_next (a_reckon hx hp (by omega) (sub_no hcx (by decide)) (by omega) hck (reckon_else c inp g2 mg l sg sg st ((st.set 0 (st.getD (n - 143) 0)).set (n - 143) (st.getD 0 0)) pc [] n (sub_no hcx (by decide)) true (swap c inp g2 mg l sg st pc [] n h1 h2 (by omega) (by omega)))) ⟨hG, by show List.length (List.set _ _ _) ≤ 64; rw [List.length_set, List.length_set]; exact hst, hle⟩
theorem eff_52 {c inp : List UInt8} {g g2 mg : Nat} {l : List UInt8} {sg : Nat} {st : List Nat} {pc : Nat} (hcl : c.length < 100000000) (hi : inp.length < 1073741824) (hG : My.Good l) (hst : st.length ≤ 64) (hp : pc < c.length) (hg2 : g2 < 18446744073709551616) (hx : (c.getD pc default).toNat = 52) (h3 : ¬ st.length < (cnt 52).1) (h4 : ¬ 64 < st.length - (cnt 52).1 + (cnt 52).2) (hck : ckH c inp g g2 mg l sg st pc []) : StpF c inp ⟨⟨mg, l⟩, sg, st, pc⟩ g (exec 10 14 (eff c inp 52 ⟨⟨mg, l⟩, sg, st, pc⟩ g2) g2) := by
 have hle := Co.nxt_le c pc
 obtain ⟨a, r, rfl⟩ := one_of h3
 have hr : r.length ≤ 900 := by simp only [List.length_cons] at hst; omega
 exact stp_next (s' := ⟨⟨mg, l⟩, _, _, Co.nxt c pc⟩) (a_keep hx hp (by omega) rfl (by omega) rfl (Nat.le_trans hst (by decide)) hck (keep_52 c inp g2 mg l sg r pc [] a hr hi)) ⟨hG, by show List.length (_ :: r) ≤ 64; simp only [List.length_cons] at hst ⊢; omega, hle⟩
theorem eff_32 {c inp : List UInt8} {g g2 mg : Nat} {l : List UInt8} {sg : Nat} {st : List Nat} {pc : Nat} (hcl : c.length < 100000000) (hi : inp.length < 1073741824) (hG : My.Good l) (hst : st.length ≤ 64) (hp : pc < c.length) (hg2 : g2 < 18446744073709551616) (hx : (c.getD pc default).toNat = 32) (h3 : ¬ st.length < (cnt 32).1) (h4 : ¬ 64 < st.length - (cnt 32).1 + (cnt 32).2) (hck : ckH c inp g g2 mg l sg st pc []) : StpF c inp ⟨⟨mg, l⟩, sg, st, pc⟩ g (exec 10 14 (eff c inp 32 ⟨⟨mg, l⟩, sg, st, pc⟩ g2) g2) := by
 have hle := Co.nxt_le c pc
 obtain ⟨a, b, r, rfl⟩ := two_of h3
 have hr : r.length ≤ 900 := by simp only [List.length_cons] at hst; omega
 refine touch_cases (G := StpF c inp ⟨⟨mg, l⟩, sg, a :: b :: r, pc⟩ g) (s := ⟨⟨mg, l⟩, sg, r, pc⟩) (a := a) (n := b) (mul := 6) (k := fun s => nx c (push s (Ps.beN (sumB (My.view s.m.l (a % M256) (b % M256)))))) hG ?_ ?_ ?_ ?_
 ·intro h
  exact stp_fail 6 (by decide) (by decide) ⟨⟨mg, l⟩, sg, r, pc⟩ g2 [] (a_keepP hx hp (by omega) rfl (by omega) rfl (Nat.le_trans hst (by decide)) hck (keep_32much c inp g2 mg l sg r pc [] a b hr hG.le hg2 h))
 ·intro z h0 h hc
  exact stp_fail 10 (by decide) (by decide) ⟨⟨mg, l⟩, sg, r, pc⟩ g2 [] (a_keepP hx hp (by omega) rfl (by omega) rfl (Nat.le_trans hst (by decide)) hck (keep_32gas c inp g2 mg l sg r pc [] a b z hr hG.le hg2 h0 h hc))
 ·intro h0
  show StpF c inp _ g (exec 10 14 (nx c (push _ (Ps.beN (sumB (My.view l (a % M256) (b % M256)))))) g2)
  rw [h0, view0]
  exact stp_next (s' := ⟨⟨mg, l⟩, _, _, Co.nxt c pc⟩) (a_keep hx hp (by omega) rfl (by omega) rfl (Nat.le_trans hst (by decide)) hck (keep_32z c inp g2 mg l sg r pc [] a b hr hG.le hg2 h0)) ⟨hG, by show List.length (_ :: r) ≤ 64; simp only [List.length_cons] at hst ⊢; omega, hle⟩
 ·intro z mg2 l2 h0 h hgr hl2 hG2 hc
  exact stp_next (s' := ⟨⟨mg2, l2⟩, _, _, Co.nxt c pc⟩) (a_keep hx hp (by omega) rfl (by omega) rfl (Nat.le_trans hst (by decide)) hck (keep_32 c inp g2 mg l sg r pc [] a b z mg2 l2 hr hG.le hg2 h0 h hgr hl2 hc)) ⟨hG2, by show List.length (_ :: r) ≤ 64; simp only [List.length_cons] at hst ⊢; omega, hle⟩
theorem eff_54 {c inp : List UInt8} {g g2 mg : Nat} {l : List UInt8} {sg : Nat} {st : List Nat} {pc : Nat} (hcl : c.length < 100000000) (hi : inp.length < 1073741824) (hG : My.Good l) (hst : st.length ≤ 64) (hp : pc < c.length) (hg2 : g2 < 18446744073709551616) (hx : (c.getD pc default).toNat = 54) (h3 : ¬ st.length < (cnt 54).1) (h4 : ¬ 64 < st.length - (cnt 54).1 + (cnt 54).2) (hck : ckH c inp g g2 mg l sg st pc []) : StpF c inp ⟨⟨mg, l⟩, sg, st, pc⟩ g (exec 10 14 (eff c inp 54 ⟨⟨mg, l⟩, sg, st, pc⟩ g2) g2) := by
 have hle := Co.nxt_le c pc
 obtain ⟨a, b, d, r, rfl⟩ := three_of h3
 have hr : r.length ≤ 900 := by simp only [List.length_cons] at hst; omega
 refine touch_cases (G := StpF c inp ⟨⟨mg, l⟩, sg, a :: b :: d :: r, pc⟩ g) (s := ⟨⟨mg, l⟩, sg, r, pc⟩) (a := a) (n := d) (mul := 3) (k := fun s => nx c { s with m := ⟨s.m.gen, if d % M256 = 0 then s.m.l else Lf.put s.m.l (a % M256) (cut inp (b % M256) (d % M256))⟩ }) hG ?_ ?_ ?_ ?_
 ·intro h
  exact stp_fail 6 (by decide) (by decide) ⟨⟨mg, l⟩, sg, r, pc⟩ g2 [] (a_keepP hx hp (by omega) rfl (by omega) rfl (Nat.le_trans hst (by decide)) hck (keep_54much c inp g2 mg l sg r pc [] a b d hr hG.le hg2 h))
 ·intro z h0 h hc
  exact stp_fail 10 (by decide) (by decide) ⟨⟨mg, l⟩, sg, r, pc⟩ g2 [] (a_keepP hx hp (by omega) rfl (by omega) rfl (Nat.le_trans hst (by decide)) hck (keep_54gas c inp g2 mg l sg r pc [] a b d z hr hG.le hg2 h0 h hc))
 ·intro h0
  show StpF c inp _ g (exec 10 14 (nx c ⟨⟨mg, if d % M256 = 0 then l else _⟩, sg, r, pc⟩) g2)
  rw [if_pos h0]
  exact stp_next (s' := ⟨⟨mg, l⟩, _, _, Co.nxt c pc⟩) (a_keep hx hp (by omega) rfl (by omega) rfl (Nat.le_trans hst (by decide)) hck (keep_54z c inp g2 mg l sg r pc [] a b d hi hr hG.le hg2 h0)) ⟨hG, by show List.length r ≤ 64; simp only [List.length_cons] at hst; omega, hle⟩
 ·intro z mg2 l2 h0 h hgr hl2 hG2 hc
  show StpF c inp _ g (exec 10 14 (nx c ⟨⟨mg2, if d % M256 = 0 then l2 else _⟩, sg, r, pc⟩) _)
  rw [if_neg (by omega)]
  have hpl : (Lf.put l2 (a % M256) (cut inp (b % M256) (d % M256))).length = l2.length := put_len (by rw [cut_len]; exact hl2.1)
  have hk := keep_54 c inp g2 mg l sg r pc [] a b d hi z mg2 l2 hr hG.le hg2 h0 h hgr hl2 hc
  rw [frL_eq hpl] at hk
  exact stp_next (s' := ⟨⟨mg2, _⟩, sg, r, Co.nxt c pc⟩) (a_keep hx hp (by omega) rfl (by omega) rfl (Nat.le_trans hst (by decide)) hck (hk)) ⟨⟨by show List.length _ ≤ 4096; rw [hpl]; exact hl2.2, by show List.length _ % 32 = 0; rw [hpl]; exact hG2.m⟩, by show List.length r ≤ 64; simp only [List.length_cons] at hst; omega, hle⟩
theorem eff_81 {c inp : List UInt8} {g g2 mg : Nat} {l : List UInt8} {sg : Nat} {st : List Nat} {pc : Nat} (hcl : c.length < 100000000) (hi : inp.length < 1073741824) (hG : My.Good l) (hst : st.length ≤ 64) (hp : pc < c.length) (hg2 : g2 < 18446744073709551616) (hx : (c.getD pc default).toNat = 81) (h3 : ¬ st.length < (cnt 81).1) (h4 : ¬ 64 < st.length - (cnt 81).1 + (cnt 81).2) (hck : ckH c inp g g2 mg l sg st pc []) : StpF c inp ⟨⟨mg, l⟩, sg, st, pc⟩ g (exec 10 14 (eff c inp 81 ⟨⟨mg, l⟩, sg, st, pc⟩ g2) g2) := by
 have hle := Co.nxt_le c pc
 obtain ⟨a, r, rfl⟩ := one_of h3
 have hr : r.length ≤ 900 := by simp only [List.length_cons] at hst; omega
 refine touch_cases0 (G := StpF c inp ⟨⟨mg, l⟩, sg, a :: r, pc⟩ g) (s := ⟨⟨mg, l⟩, sg, r, pc⟩) (a := a) (n := 32) (k := fun s => nx c (push s (Ps.beN (My.view s.m.l (a % M256) 32)))) hG ?_ ?_ ?_ ?_
 ·intro h
  rw [m32] at h
  exact stp_fail 6 (by decide) (by decide) ⟨⟨mg, l⟩, sg, r, pc⟩ g2 [] (a_keepP hx hp (by omega) rfl (by omega) rfl (Nat.le_trans hst (by decide)) hck (keep_81much c inp g2 mg l sg r pc [] a hr hG.le hg2 h))
 ·intro z h0 h hc
  rw [m32] at h0 h
  exact stp_fail 10 (by decide) (by decide) ⟨⟨mg, l⟩, sg, r, pc⟩ g2 [] (a_keepP hx hp (by omega) rfl (by omega) rfl (Nat.le_trans hst (by decide)) hck (keep_81gas c inp g2 mg l sg r pc [] a z hr hG.le hg2 h0 h hc))
 ·intro h0
  rw [m32] at h0; exact absurd h0 (by decide)
 ·intro z mg2 l2 h0 h hgr hl2 hG2 hc
  rw [m32] at h0 h hl2
  exact stp_next (s' := ⟨⟨mg2, l2⟩, _, _, Co.nxt c pc⟩) (a_keep hx hp (by omega) rfl (by omega) rfl (Nat.le_trans hst (by decide)) hck (keep_81 c inp g2 mg l sg r pc [] a z mg2 l2 hr hG.le hg2 h0 h hgr hl2 hc)) ⟨hG2, by show List.length (_ :: r) ≤ 64; simp only [List.length_cons] at hst ⊢; omega, hle⟩
theorem eff_82 {c inp : List UInt8} {g g2 mg : Nat} {l : List UInt8} {sg : Nat} {st : List Nat} {pc : Nat} (hcl : c.length < 100000000) (hi : inp.length < 1073741824) (hG : My.Good l) (hst : st.length ≤ 64) (hp : pc < c.length) (hg2 : g2 < 18446744073709551616) (hx : (c.getD pc default).toNat = 82) (h3 : ¬ st.length < (cnt 82).1) (h4 : ¬ 64 < st.length - (cnt 82).1 + (cnt 82).2) (hck : ckH c inp g g2 mg l sg st pc []) : StpF c inp ⟨⟨mg, l⟩, sg, st, pc⟩ g (exec 10 14 (eff c inp 82 ⟨⟨mg, l⟩, sg, st, pc⟩ g2) g2) := by
 have hle := Co.nxt_le c pc
 obtain ⟨a, b, r, rfl⟩ := two_of h3
 have hr : r.length ≤ 900 := by simp only [List.length_cons] at hst; omega
 refine touch_cases0 (G := StpF c inp ⟨⟨mg, l⟩, sg, a :: b :: r, pc⟩ g) (s := ⟨⟨mg, l⟩, sg, r, pc⟩) (a := a) (n := 32) (k := fun s => nx c { s with m := ⟨s.m.gen, Lf.put s.m.l (a % M256) (wordB b)⟩ }) hG ?_ ?_ ?_ ?_
 ·intro h
  rw [m32] at h
  exact stp_fail 6 (by decide) (by decide) ⟨⟨mg, l⟩, sg, r, pc⟩ g2 [] (a_keepP hx hp (by omega) rfl (by omega) rfl (Nat.le_trans hst (by decide)) hck (keep_82much c inp g2 mg l sg r pc [] a b hr hG.le hg2 h))
 ·intro z h0 h hc
  rw [m32] at h0 h
  exact stp_fail 10 (by decide) (by decide) ⟨⟨mg, l⟩, sg, r, pc⟩ g2 [] (a_keepP hx hp (by omega) rfl (by omega) rfl (Nat.le_trans hst (by decide)) hck (keep_82gas c inp g2 mg l sg r pc [] a b z hr hG.le hg2 h0 h hc))
 ·intro h0
  rw [m32] at h0; exact absurd h0 (by decide)
 ·intro z mg2 l2 h0 h hgr hl2 hG2 hc
  rw [m32] at h0 h hl2
  have hpl : (Lf.put l2 (a % M256) (wordB b)).length = l2.length := put_len (by rw [wordB_len]; exact hl2.1)
  have hk := keep_82 c inp g2 mg l sg r pc [] a b z mg2 l2 hr hG.le hg2 h0 h hgr hl2 hc
  rw [frL_eq hpl] at hk
  exact stp_next (s' := ⟨⟨mg2, _⟩, sg, r, Co.nxt c pc⟩) (a_keep hx hp (by omega) rfl (by omega) rfl (Nat.le_trans hst (by decide)) hck (hk)) ⟨⟨by show List.length _ ≤ 4096; rw [hpl]; exact hl2.2, by show List.length _ % 32 = 0; rw [hpl]; exact hG2.m⟩, by show List.length r ≤ 64; simp only [List.length_cons] at hst; omega, hle⟩
theorem eff_83 {c inp : List UInt8} {g g2 mg : Nat} {l : List UInt8} {sg : Nat} {st : List Nat} {pc : Nat} (hcl : c.length < 100000000) (hi : inp.length < 1073741824) (hG : My.Good l) (hst : st.length ≤ 64) (hp : pc < c.length) (hg2 : g2 < 18446744073709551616) (hx : (c.getD pc default).toNat = 83) (h3 : ¬ st.length < (cnt 83).1) (h4 : ¬ 64 < st.length - (cnt 83).1 + (cnt 83).2) (hck : ckH c inp g g2 mg l sg st pc []) : StpF c inp ⟨⟨mg, l⟩, sg, st, pc⟩ g (exec 10 14 (eff c inp 83 ⟨⟨mg, l⟩, sg, st, pc⟩ g2) g2) := by
 have hle := Co.nxt_le c pc
 obtain ⟨a, b, r, rfl⟩ := two_of h3
 have hr : r.length ≤ 900 := by simp only [List.length_cons] at hst; omega
 refine touch_cases0 (G := StpF c inp ⟨⟨mg, l⟩, sg, a :: b :: r, pc⟩ g) (s := ⟨⟨mg, l⟩, sg, r, pc⟩) (a := a) (n := 1) (k := fun s => nx c { s with m := ⟨s.m.gen, s.m.l.set (a % M256) (UInt8.ofNat b)⟩ }) hG ?_ ?_ ?_ ?_
 ·intro h
  rw [m1] at h
  exact stp_fail 6 (by decide) (by decide) ⟨⟨mg, l⟩, sg, r, pc⟩ g2 [] (a_keepP hx hp (by omega) rfl (by omega) rfl (Nat.le_trans hst (by decide)) hck (keep_83much c inp g2 mg l sg r pc [] a b hr hG.le hg2 h))
 ·intro z h0 h hc
  rw [m1] at h0 h
  exact stp_fail 10 (by decide) (by decide) ⟨⟨mg, l⟩, sg, r, pc⟩ g2 [] (a_keepP hx hp (by omega) rfl (by omega) rfl (Nat.le_trans hst (by decide)) hck (keep_83gas c inp g2 mg l sg r pc [] a b z hr hG.le hg2 h0 h hc))
 ·intro h0
  rw [m1] at h0; exact absurd h0 (by decide)
 ·intro z mg2 l2 h0 h hgr hl2 hG2 hc
  rw [m1] at h0 h hl2
  have hpl : (l2.set (a % M256) (UInt8.ofNat b)).length = l2.length := List.length_set
  have hk := keep_83 c inp g2 mg l sg r pc [] a b z mg2 l2 hr hG.le hg2 h0 h hgr hl2 hc
  rw [frL_eq hpl] at hk
  exact stp_next (s' := ⟨⟨mg2, _⟩, sg, r, Co.nxt c pc⟩) (a_keep hx hp (by omega) rfl (by omega) rfl (Nat.le_trans hst (by decide)) hck (hk)) ⟨⟨by show List.length _ ≤ 4096; rw [hpl]; exact hl2.2, by show List.length _ % 32 = 0; rw [hpl]; exact hG2.m⟩, by show List.length r ≤ 64; simp only [List.length_cons] at hst; omega, hle⟩
theorem eff_53 {c inp : List UInt8} {g g2 mg : Nat} {l : List UInt8} {sg : Nat} {st : List Nat} {pc : Nat} (hcl : c.length < 100000000) (hi : inp.length < 1073741824) (hG : My.Good l) (hst : st.length ≤ 64) (hp : pc < c.length) (hg2 : g2 < 18446744073709551616) (hx : (c.getD pc default).toNat = 53) (h3 : ¬ st.length < (cnt 53).1) (h4 : ¬ 64 < st.length - (cnt 53).1 + (cnt 53).2) (hck : ckH c inp g g2 mg l sg st pc []) : StpF c inp ⟨⟨mg, l⟩, sg, st, pc⟩ g (exec 10 14 (eff c inp 53 ⟨⟨mg, l⟩, sg, st, pc⟩ g2) g2) := by
 have hle := Co.nxt_le c pc
 have h4 : ¬ 64 < st.length - 0 + 1 := h4
 exact stp_next (s' := ⟨⟨mg, l⟩, _, _, Co.nxt c pc⟩) (a_tell hx hp (by omega) rfl (by omega) rfl (by omega) hck (tell_53 c inp g2 mg l sg st pc [] (by omega) hG.le hi (by omega) (by omega) hg2)) ⟨hG, by show List.length (_ :: st) ≤ 64; simp only [List.length_cons]; omega, hle⟩
theorem eff_55 {c inp : List UInt8} {g g2 mg : Nat} {l : List UInt8} {sg : Nat} {st : List Nat} {pc : Nat} (hcl : c.length < 100000000) (hi : inp.length < 1073741824) (hG : My.Good l) (hst : st.length ≤ 64) (hp : pc < c.length) (hg2 : g2 < 18446744073709551616) (hx : (c.getD pc default).toNat = 55) (h3 : ¬ st.length < (cnt 55).1) (h4 : ¬ 64 < st.length - (cnt 55).1 + (cnt 55).2) (hck : ckH c inp g g2 mg l sg st pc []) : StpF c inp ⟨⟨mg, l⟩, sg, st, pc⟩ g (exec 10 14 (eff c inp 55 ⟨⟨mg, l⟩, sg, st, pc⟩ g2) g2) := by
 have hle := Co.nxt_le c pc
 have h4 : ¬ 64 < st.length - 0 + 1 := h4
 exact stp_next (s' := ⟨⟨mg, l⟩, _, _, Co.nxt c pc⟩) (a_tell hx hp (by omega) rfl (by omega) rfl (by omega) hck (tell_55 c inp g2 mg l sg st pc [] (by omega) hG.le hi (by omega) (by omega) hg2)) ⟨hG, by show List.length (_ :: st) ≤ 64; simp only [List.length_cons]; omega, hle⟩
theorem eff_88 {c inp : List UInt8} {g g2 mg : Nat} {l : List UInt8} {sg : Nat} {st : List Nat} {pc : Nat} (hcl : c.length < 100000000) (hi : inp.length < 1073741824) (hG : My.Good l) (hst : st.length ≤ 64) (hp : pc < c.length) (hg2 : g2 < 18446744073709551616) (hx : (c.getD pc default).toNat = 88) (h3 : ¬ st.length < (cnt 88).1) (h4 : ¬ 64 < st.length - (cnt 88).1 + (cnt 88).2) (hck : ckH c inp g g2 mg l sg st pc []) : StpF c inp ⟨⟨mg, l⟩, sg, st, pc⟩ g (exec 10 14 (eff c inp 88 ⟨⟨mg, l⟩, sg, st, pc⟩ g2) g2) := by
 have hle := Co.nxt_le c pc
 have h4 : ¬ 64 < st.length - 0 + 1 := h4
 exact stp_next (s' := ⟨⟨mg, l⟩, _, _, Co.nxt c pc⟩) (a_tell hx hp (by omega) rfl (by omega) rfl (by omega) hck (tell_88 c inp g2 mg l sg st pc [] (by omega) hG.le hi (by omega) (by omega) hg2)) ⟨hG, by show List.length (_ :: st) ≤ 64; simp only [List.length_cons]; omega, hle⟩
theorem eff_89 {c inp : List UInt8} {g g2 mg : Nat} {l : List UInt8} {sg : Nat} {st : List Nat} {pc : Nat} (hcl : c.length < 100000000) (hi : inp.length < 1073741824) (hG : My.Good l) (hst : st.length ≤ 64) (hp : pc < c.length) (hg2 : g2 < 18446744073709551616) (hx : (c.getD pc default).toNat = 89) (h3 : ¬ st.length < (cnt 89).1) (h4 : ¬ 64 < st.length - (cnt 89).1 + (cnt 89).2) (hck : ckH c inp g g2 mg l sg st pc []) : StpF c inp ⟨⟨mg, l⟩, sg, st, pc⟩ g (exec 10 14 (eff c inp 89 ⟨⟨mg, l⟩, sg, st, pc⟩ g2) g2) := by
 have hle := Co.nxt_le c pc
 have h4 : ¬ 64 < st.length - 0 + 1 := h4
 exact stp_next (s' := ⟨⟨mg, l⟩, _, _, Co.nxt c pc⟩) (a_tell hx hp (by omega) rfl (by omega) rfl (by omega) hck (tell_89 c inp g2 mg l sg st pc [] (by omega) hG.le hi (by omega) (by omega) hg2)) ⟨hG, by show List.length (_ :: st) ≤ 64; simp only [List.length_cons]; omega, hle⟩
theorem eff_90 {c inp : List UInt8} {g g2 mg : Nat} {l : List UInt8} {sg : Nat} {st : List Nat} {pc : Nat} (hcl : c.length < 100000000) (hi : inp.length < 1073741824) (hG : My.Good l) (hst : st.length ≤ 64) (hp : pc < c.length) (hg2 : g2 < 18446744073709551616) (hx : (c.getD pc default).toNat = 90) (h3 : ¬ st.length < (cnt 90).1) (h4 : ¬ 64 < st.length - (cnt 90).1 + (cnt 90).2) (hck : ckH c inp g g2 mg l sg st pc []) : StpF c inp ⟨⟨mg, l⟩, sg, st, pc⟩ g (exec 10 14 (eff c inp 90 ⟨⟨mg, l⟩, sg, st, pc⟩ g2) g2) := by
 have hle := Co.nxt_le c pc
 have h4 : ¬ 64 < st.length - 0 + 1 := h4
 exact stp_next (s' := ⟨⟨mg, l⟩, _, _, Co.nxt c pc⟩) (a_tell hx hp (by omega) rfl (by omega) rfl (by omega) hck (tell_90 c inp g2 mg l sg st pc [] (by omega) hG.le hi (by omega) (by omega) hg2)) ⟨hG, by show List.length (_ :: st) ≤ 64; simp only [List.length_cons]; omega, hle⟩
theorem eff_two {c inp : List UInt8} {g g2 mg : Nat} {l : List UInt8} {sg : Nat} {st : List Nat} {pc : Nat} (hcl : c.length < 100000000) (hi : inp.length < 1073741824) (hG : My.Good l) (hst : st.length ≤ 64) (hp : pc < c.length) (hg2 : g2 < 18446744073709551616) (n : Nat) (hn : n < 256) (hx : (c.getD pc default).toNat = n) (a b x : Nat) (r : List Nat) (hst2 : st = a :: b :: r) (h : two n a b = some x) (h1 : ¬ (96 ≤ n ∧ n < 160)) (hcx : metL.contains n = false) (hck : ckH c inp g g2 mg l sg st pc []) : StpF c inp ⟨⟨mg, l⟩, sg, st, pc⟩ g (exec 10 14 (nx c (push ⟨⟨mg, l⟩, sg, r, pc⟩ x)) g2) := by
 have hle := Co.nxt_le c pc
 subst hst2
 have hr : r.length ≤ 62 := by simp only [List.length_cons] at hst; omega
 exact stp_next (a_reckon hx hp (by omega) (sub_no hcx (by decide)) (by omega) hck (reckon_else c inp g2 mg l sg (sg + 1) (a :: b :: r) (x :: r) pc [] n (sub_no hcx (by decide)) true (shuffle_two c inp g2 mg l sg r pc [] a b x n hn (by omega) (by omega) h))) ⟨hG, by show List.length (_ :: r) ≤ 64; simp only [List.length_cons]; omega, hle⟩
theorem effC {c inp : List UInt8} {g g2 mg : Nat} {l : List UInt8} {sg : Nat} {st : List Nat} {pc : Nat} (hcl : c.length < 100000000) (hi : inp.length < 1073741824) (hG : My.Good l) (hst : st.length ≤ 64) (hp : pc < c.length) (hg2 : g2 < 18446744073709551616) (n : Nat) (hn : n < 256) (hx : (c.getD pc default).toNat = n) (hnm : ¬ Cn.name n = []) (hw : ofW n = false) (h3 : ¬ st.length < (cnt n).1) (h4 : ¬ 64 < st.length - (cnt n).1 + (cnt n).2) (hck : ckH c inp g g2 mg l sg st pc []) : StpF c inp ⟨⟨mg, l⟩, sg, st, pc⟩ g (exec 10 14 (eff c inp n ⟨⟨mg, l⟩, sg, st, pc⟩ g2) g2) := by
 cases hm : metL.contains n with
 | true =>
  rw [List.contains_iff_mem] at hm
  simp only [metL, List.mem_cons, List.not_mem_nil, or_false] at hm
  rcases hm with rfl | rfl | rfl | rfl | rfl | rfl | rfl | rfl | rfl | rfl | rfl | rfl | rfl | rfl | rfl | rfl | rfl | rfl
  ·exact eff_0 hcl hi hG hst hp hg2 hx h3 h4 hck
  ·exact eff_242 hcl hi hG hst hp hg2 hx h3 h4 hck
  ·exact eff_253 hcl hi hG hst hp hg2 hx h3 h4 hck
  ·exact eff_86 hcl hi hG hst hp hg2 hx h3 h4 hck
  ·exact eff_87 hcl hi hG hst hp hg2 hx h3 h4 hck
  ·exact eff_91 hcl hi hG hst hp hg2 hx h3 h4 hck
  ·exact eff_21 hcl hi hG hst hp hg2 hx h3 h4 hck
  ·exact eff_25 hcl hi hG hst hp hg2 hx h3 h4 hck
  ·exact eff_8 hcl hi hG hst hp hg2 hx h3 h4 hck
  ·exact eff_9 hcl hi hG hst hp hg2 hx h3 h4 hck
  ·exact eff_10 hcl hi hG hst hp hg2 hx h3 h4 hck
  ·exact eff_80 hcl hi hG hst hp hg2 hx h3 h4 hck
  ·exact eff_32 hcl hi hG hst hp hg2 hx h3 h4 hck
  ·exact eff_52 hcl hi hG hst hp hg2 hx h3 h4 hck
  ·exact eff_54 hcl hi hG hst hp hg2 hx h3 h4 hck
  ·exact eff_81 hcl hi hG hst hp hg2 hx h3 h4 hck
  ·exact eff_82 hcl hi hG hst hp hg2 hx h3 h4 hck
  ·exact eff_83 hcl hi hG hst hp hg2 hx h3 h4 hck
 | false =>
  have ne : ∀ k, metL.contains k = true → n ≠ k := fun k hk e => by subst e; rw [hm] at hk; cases hk
  unfold eff
  rw [if_neg (ne 0 rfl), if_neg (ne 242 rfl), if_neg (ne 253 rfl), if_neg (ne 86 rfl), if_neg (ne 87 rfl), if_neg (ne 91 rfl)]
  by_cases hpu : 96 ≤ n ∧ n < 128
  ·rw [if_pos hpu]
   exact eff_push hcl hi hG hst hp hg2 n hx hpu.1 hpu.2 h4 hck
  rw [if_neg hpu, if_neg (ne 21 rfl), if_neg (ne 25 rfl), if_neg (ne 8 rfl), if_neg (ne 9 rfl), if_neg (ne 10 rfl), if_neg (ne 80 rfl)]
  by_cases hdu : 128 ≤ n ∧ n < 144
  ·rw [if_pos hdu]
   exact eff_dup hcl hi hG hst hp hg2 n hx hdu.1 hdu.2 h3 h4 hm hck
  rw [if_neg hdu]
  by_cases hsw : 144 ≤ n ∧ n < 160
  ·rw [if_pos hsw]
   exact eff_swap hcl hi hG hst hp hg2 n hx hsw.1 hsw.2 h3 hm hck
  rw [if_neg hsw, if_neg (ne 32 rfl), if_neg (ne 52 rfl), if_neg (ne 54 rfl), if_neg (ne 81 rfl), if_neg (ne 82 rfl), if_neg (ne 83 rfl)]
  cases ht : ([53, 55, 88, 89, 90] : List Nat).contains n with
  | true =>
   rw [List.contains_iff_mem] at ht
   simp only [List.mem_cons, List.not_mem_nil, or_false] at ht
   rcases ht with rfl | rfl | rfl | rfl | rfl
   ·exact eff_53 hcl hi hG hst hp hg2 hx h3 h4 hck
   ·exact eff_55 hcl hi hG hst hp hg2 hx h3 h4 hck
   ·exact eff_88 hcl hi hG hst hp hg2 hx h3 h4 hck
   ·exact eff_89 hcl hi hG hst hp hg2 hx h3 h4 hck
   ·exact eff_90 hcl hi hG hst hp hg2 hx h3 h4 hck
  | false =>
   obtain ⟨q1, q2, q3⟩ := met hn hnm hw hm (by omega) ht
   have nt : ∀ k, ([53, 55, 88, 89, 90] : List Nat).contains k = true → n ≠ k := fun k hk e => by subst e; rw [ht] at hk; cases hk
   have e : tells c inp n ⟨⟨mg, l⟩, sg, st, pc⟩ g2 = none := by
    unfold tells
    rw [if_neg (nt 53 rfl), if_neg (nt 55 rfl), if_neg (nt 88 rfl), if_neg (nt 89 rfl), if_neg (nt 90 rfl)]
   rw [e]
   rw [q2] at h3
   obtain ⟨a, b, r, hst2⟩ := two_of h3
   obtain ⟨x, hx2⟩ := two_in (a := a) (b := b) q1
   have key := eff_two hcl hi hG hst hp hg2 n hn hx a b x r hst2 hx2 (by omega) hm hck
   subst hst2
   show StpF c inp _ g (exec 10 14 (match two n a b with | some x => nx c (push ⟨⟨mg, l⟩, sg, r, pc⟩ x) | none => .fail 9) g2)
   rw [hx2]
   exact key
theorem stepC {c inp : List UInt8} {s : MS} {g : Nat} (hcl : c.length < 100000000) (hi : inp.length < 1073741824) (hI : Inv c s) (hg : g < 18446744073709551616) : StpF c inp s g (exec 10 14 (Fm.act c inp s g) g) := by
 obtain ⟨⟨mg, l⟩, sg, st, pc⟩ := s
 obtain ⟨hG, hst, hpc⟩ := hI
 simp only at hG hst hpc
 unfold Fm.act
 simp only
 by_cases hp : c.length ≤ pc
 ·rw [if_pos hp]
  exact stp_stop (s' := ⟨⟨mg, l⟩, sg, st, pc⟩) (Fw.step_end c inp g mg l sg st pc [] hp (by omega)) (Nat.zero_le _)
 rw [if_neg hp]
 have hn := (c.getD pc default).toNat_lt
 generalize hx : (c.getD pc default).toNat = n at *
 have bad : ∀ e : Nat, e ≠ 0 → e ≠ 14 → (LM Tryz.prog 60 [.p 1000 0, .k (.int .u8 ((n : Nat) : Int)), boV true] (frM c inp g mg l sg st pc []) fun q m => q = .pan (fltV (e : Nat)) ∧ m = frM c inp g mg l sg st pc []) → StpF c inp ⟨⟨mg, l⟩, sg, st, pc⟩ g (.done ⟨e, 0, []⟩) := fun e h1 h2 h => by
  subst hx
  exact stp_fail e h1 h2 ⟨⟨mg, l⟩, sg, st, pc⟩ g [] (step_bad c inp g mg l sg st pc [] _ (by omega) (by omega) h)
 by_cases h1 : Cn.name n = []
 ·rw [if_pos (.inl h1)]
  exact bad 9 (by decide) (by decide) (check_name c inp g mg l sg st pc [] n hn h1)
 cases h2 : ofW n with
 | true =>
  rw [if_pos (.inr rfl)]
  exact bad 9 (by decide) (by decide) (check_world c inp g mg l sg st pc [] n hn h1 h2)
 | false =>
 rw [if_neg (fun k => k.elim h1 (fun k => by cases k))]
 by_cases h3 : st.length < (cnt n).1
 ·rw [if_pos (.inl h3)]
  exact bad 7 (by decide) (by decide) (check_few c inp g mg l sg st pc [] n hn h1 h2 (by omega) h3)
 by_cases h4 : 64 < st.length - (cnt n).1 + (cnt n).2
 ·rw [if_pos (.inr h4)]
  exact bad 7 (by decide) (by decide) (check_many c inp g mg l sg st pc [] n hn h1 h2 (by omega) h3 h4)
 rw [if_neg (fun k => k.elim h3 h4)]
 rw [exec]
 by_cases h5 : g < Pr.opN n
 ·rw [if_pos h5]
  exact bad 10 (by decide) (by decide) (check_gas c inp g mg l sg st pc [] n hn h1 h2 (by omega) h3 h4 h5)
 rw [if_neg h5]
 have hck : ckH c inp g (g - Pr.opN n) mg l sg st pc [] := by
  have := check_ok c inp g mg l sg st pc [] n hn h1 h2 (by omega) h3 h4 hg (Nat.le_of_not_lt h5)
  subst hx
  exact this
 exact effC hcl hi hG hst (Nat.lt_of_not_le hp) (by omega) n hn hx h1 h2 h3 h4 hck
end Lf
end Go.Proofs.YtffaobngpbaklaaGreatDoor

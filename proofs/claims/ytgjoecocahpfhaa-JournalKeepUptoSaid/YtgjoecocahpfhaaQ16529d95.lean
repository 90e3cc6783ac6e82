/- A part of the proof: texts joined. -/
import Derived.Test.YtgjoecocahpfhaaQ153695f1
namespace Go.Proofs.Ytgjoecocahpfhaa
open Go.RowKit Rg
set_option linter.unusedVariables false
set_option maxRecDepth 100000
namespace Lf
namespace Jq
structure PdT where
  a : Nat
  b : Nat
  lim : Nat
  wb : Bool
  wp : Bool
  S : List Nat
theorem pe_ge (a : Nat) : ∀ (n i j : Nat) (S : List Nat), j + 1 - i ≤ n → 0 < i → i ≤ (Go.Sort.partEqLoop ltN a i j S.toArray).1 := by
  intro n
  induction n with
  | zero =>
    intro i j S h h0
    have rI := su_ge (up_ S a) S.toArray j (j + 1 - i) i (Nat.le_refl _)
    have rJ := sdn_le (dn_ S a) S.toArray (Go.Sort.scanUp (up_ S a) S.toArray j i) j
    rw [pe_end rfl rfl (by omega)]
    exact rI.1
  | succ n ih =>
    intro i j S h h0
    have rI := su_ge (up_ S a) S.toArray j (j + 1 - i) i (Nat.le_refl _)
    have rJ := sdn_le (dn_ S a) S.toArray (Go.Sort.scanUp (up_ S a) S.toArray j i) j
    generalize hI : Go.Sort.scanUp (up_ S a) S.toArray j i = I at *
    generalize hJ : Go.Sort.scanDown (dn_ S a) S.toArray I j = J at *
    by_cases hc : J < I
    · rw [pe_end hI hJ hc]
      exact rI.1
    · have hne := ne_of2 hI hJ (by omega) hc
      rw [pe_go hI hJ hc rI.1 rJ.1 (by omega)]
      have := ih (I + 1) (J - 1) ((S.set I (S.getD J default)).set J (S.getD I default)) (by omega) (by omega)
      omega
theorem pe_mid {S : List Nat} {a b p : Nat} (h : a < b) : a < (Go.Sort.partitionEqual ltN S.toArray a b p).1 ∧ (Go.Sort.partitionEqual ltN S.toArray a b p).1 ≤ b := by
  unfold Go.Sort.partitionEqual
  rw [swp_l]
  have h1 := pe_ge a _ (a + 1) (b - 1) ((S.set a (S.getD p default)).set p (S.getD a default)) (Nat.le_refl _) (by omega)
  have h2 := (pe_rng a _ (a + 1) (b - 1) ((S.set a (S.getD p default)).set p (S.getD a default)) (Nat.le_refl _) (by omega) (by omega)).1
  omega
abbrev E6 (g n a b lim : Nat) (wb wp : Bool) : Env := [(0, sQ g n), (1, iK a), (2, iK b), (3, iK lim), (8, .k (.bool wb)), (9, .k (.bool wp)), (10, iK (b - a))]
set_option maxHeartbeats 16000000 in
theorem pdq_ : ∀ (n : Nat) (D : List Nat) (g a b limit : Nat), b - a ≤ n → D.length < 100000000 → a ≤ b → b ≤ D.length → limit < 1000000 → LM Try.prog 91 [sQ g D.length, iK a, iK b, iK limit] (mQ g D) fun o m => o = .ret (.t []) ∧ m = mQ g (Go.Sort.pdq ltN D.toArray a b limit true true).toList := by
  intro n
  induction n using Nat.strongRecOn with
  | ind n ih =>
  intro D g a b limit hn hl hab hb hlm
  generalize hR : Go.Sort.pdq ltN D.toArray a b limit true true = R
  refine LM.enter tt Try.func91 rfl rfl rfl (by kernel_rfl) rfl rfl rfl (fun o mo h => by rw [h.2]; rfl) fun F _ => ?_
  refine wk ?_ trueW trueW
  refine LC.loop (α := PdT) (fun t => [(0, sQ g D.length), (1, iK t.a), (2, iK t.b), (3, iK t.lim), (8, .k (.bool t.wb)), (9, .k (.bool t.wp))]) (fun t => mQ g t.S) (fun t => t.a ≤ t.b ∧ t.b ≤ D.length ∧ t.lim ≤ limit ∧ t.S.length = D.length ∧ t.b - t.a ≤ n ∧ Go.Sort.pdq ltN t.S.toArray t.a t.b t.lim t.wb t.wp = R) (fun t => t.b - t.a) ⟨a, b, limit, true, true, D⟩ ⟨hab, hb, Nat.le_refl _, rfl, hn, hR⟩ ⟨by repeat (first | exact True.intro | refine And.intro rfl ?_), by repeat (first | exact True.intro | refine And.intro rfl ?_), rfl⟩ ?_
  clear hR hn hab hb
  rintro ⟨a, b, lim, wb, wp, S⟩ ⟨hab, hb, hlim, hSl, hn, hS⟩
  dsimp only at hab hb hlim hSl hn hS ⊢
  have hel : (S.map uK).length = S.length := List.length_map _
  have hof : (OfNat.ofNat a : Nat) = a := rfl
  by_cases h12 : b - a ≤ 12
  · rw [Go.Sort.pdq, if_pos h12] at hS
    have c1 := insSort_ S g a b (by omega) (by omega) (by omega)
    rw [hSl, hS] at c1
    clear hS ih
    exact wk trueW trueW trueW
  by_cases hl0 : lim = 0
  · rw [Go.Sort.pdq, if_neg h12, if_pos hl0] at hS
    subst hl0
    have c1 := heap_ S g a b (by omega) (by omega) (by omega)
    rw [hSl, hS] at c1
    clear hS ih
    exact wk trueW trueW trueW
  rw [Go.Sort.pdq, if_neg h12, if_neg hl0] at hS
  dsimp only at hS
  generalize hd1 : (if (!wb) = true then Go.Sort.breakPatterns S.toArray a b else S.toArray) = d1 at hS
  generalize hl1 : (if (!wb) = true then lim - 1 else lim) = l1 at hS
  have hl1b : l1 ≤ limit := by rw [← hl1]; split <;> omega
  have hstp : StopAt 7 := ⟨trivial⟩
  refine wk ?_ trueW trueW
  refine Stp.mk ?_
  clear hstp
  refine LC.join (τ := List Nat) (fun S1 => S1.length = D.length ∧ S1.toArray = d1) (fun _ => E6 g D.length a b l1 wb wp) (fun S1 => mQ g S1) ?_ ?_
  · cases wb with
    | true =>
      have e1 : S.toArray = d1 := hd1
      have e2 : lim = l1 := hl1
      subst e2
      clear hS hd1 hl1 ih
      refine wk ?_ trueW trueW
      exact ⟨S, ⟨hSl, e1⟩, by repeat (first | exact True.intro | refine And.intro rfl ?_), by repeat (first | exact True.intro | refine And.intro rfl ?_), rfl⟩
    | false =>
      have e1 : Go.Sort.breakPatterns S.toArray a b = d1 := hd1
      have e2 : lim - 1 = l1 := hl1
      have c1 := break_ S g a b (by omega) (by omega) (by omega)
      have hz := brk_size S.toArray a b
      rw [hSl, e1] at c1
      rw [e1] at hz
      subst e2
      clear hS hd1 hl1 ih e1
      refine wk ?_ trueW trueW
      exact ⟨d1.toList, ⟨by rw [Array.length_toList, hz]; simpa using hSl, rfl⟩, by repeat (first | exact True.intro | refine And.intro rfl ?_), by repeat (first | exact True.intro | refine And.intro rfl ?_), rfl⟩
  rintro S1 ⟨hS1l, hS1⟩
  subst hS1
  clear hd1 hl1 hel hSl
  have hel : (S1.map uK).length = S1.length := List.length_map _
  have c1 := pivot_ S1 g a b (by omega) (by omega) (by omega)
  have pv := Go.Sort.choosePivot_holds (lt := ltN) S1.toArray a b (by omega)
  rw [hS1l] at c1
  generalize Go.Sort.choosePivot ltN S1.toArray a b = c at *
  obtain ⟨p0, h0⟩ := c
  dsimp only at pv c1 hS
  generalize hd2 : (if h0 = Go.Sort.Hint.decreasing then Go.Sort.reverseRange S1.toArray a b else S1.toArray) = d2 at hS
  generalize hp : (if h0 = Go.Sort.Hint.decreasing then b - 1 - (p0 - a) else p0) = p at hS
  generalize hh : (if h0 = Go.Sort.Hint.decreasing then Go.Sort.Hint.increasing else h0) = hi at hS
  have hpb : a ≤ p ∧ p < b := by rw [← hp]; split <;> omega
  have hstp : StopAt 11 := ⟨trivial⟩
  refine wk ?_ trueW trueW
  refine Stp.mk ?_
  clear hstp c1
  refine LC.join (τ := List Nat) (fun S2 => S2.length = D.length ∧ S2.toArray = d2) (fun _ => E6 g D.length a b l1 wb wp ++ [(11, iK p), (12, iK (hintN hi))]) (fun S2 => mQ g S2) ?_ ?_
  · cases h0 with
    | decreasing =>
      have e1 : Go.Sort.reverseRange S1.toArray a b = d2 := hd2
      have e2 : b - 1 - (p0 - a) = p := hp
      have e3 : Go.Sort.Hint.increasing = hi := hh
      have c1 := rev_ S1 g a b (by omega) (by omega) (by omega)
      have hz := rv_size S1.toArray a b
      rw [hS1l, e1] at c1
      rw [e1] at hz
      subst e2
      subst e3
      clear hS hd2 hp hh ih e1
      show LC _ _ _ _ _ ((12, iK 2) :: _) _
      refine wk ?_ trueW trueW
      exact ⟨d2.toList, ⟨by rw [Array.length_toList, hz]; simpa using hS1l, rfl⟩, by repeat (first | exact True.intro | refine And.intro rfl ?_), by repeat (first | exact True.intro | refine And.intro rfl ?_), rfl⟩
    | increasing =>
      have e1 : S1.toArray = d2 := hd2
      have e2 : p0 = p := hp
      have e3 : Go.Sort.Hint.increasing = hi := hh
      subst e2
      subst e3
      clear hS hd2 hp hh ih
      show LC _ _ _ _ _ ((12, iK 1) :: _) _
      refine wk ?_ trueW trueW
      exact ⟨S1, ⟨hS1l, e1⟩, by repeat (first | exact True.intro | refine And.intro rfl ?_), by repeat (first | exact True.intro | refine And.intro rfl ?_), rfl⟩
    | unknown =>
      have e1 : S1.toArray = d2 := hd2
      have e2 : p0 = p := hp
      have e3 : Go.Sort.Hint.unknown = hi := hh
      subst e2
      subst e3
      clear hS hd2 hp hh ih
      show LC _ _ _ _ _ ((12, iK 0) :: _) _
      refine wk ?_ trueW trueW
      exact ⟨S1, ⟨hS1l, e1⟩, by repeat (first | exact True.intro | refine And.intro rfl ?_), by repeat (first | exact True.intro | refine And.intro rfl ?_), rfl⟩
  rintro S2 ⟨hS2l, hS2⟩
  subst hS2
  clear hd2 hp hh hel hS1l pv
  have hel : (S2.map uK).length = S2.length := List.length_map _
  generalize hq : (if (wb && wp && decide (hi = Go.Sort.Hint.increasing)) = true then Go.Sort.partialInsertionSort ltN S2.toArray a b else (S2.toArray, false)) = q at hS
  obtain ⟨q1, q2⟩ := q
  have hstp : StopAt 15 := ⟨trivial⟩
  refine wk ?_ trueW trueW
  refine Stp.mk ?_
  clear hstp
  refine LC.join (τ := List Nat) (fun S3 => S3.length = D.length ∧ S3.toArray = q1 ∧ q2 = false) (fun _ => E6 g D.length a b l1 wb wp ++ [(11, iK p), (12, iK (hintN hi))]) (fun S3 => mQ g S3) ?_ ?_
  · cases wb with
    | false =>
      injection (show (S2.toArray, false) = (q1, q2) from hq) with e1 e2
      clear hS hq ih
      refine wk ?_ trueW trueW
      exact ⟨S2, ⟨hS2l, e1, e2.symm⟩, by repeat (first | exact True.intro | refine And.intro rfl ?_), by repeat (first | exact True.intro | refine And.intro rfl ?_), rfl⟩
    | true =>
      cases wp with
      | false =>
        injection (show (S2.toArray, false) = (q1, q2) from hq) with e1 e2
        clear hS hq ih
        refine wk ?_ trueW trueW
        exact ⟨S2, ⟨hS2l, e1, e2.symm⟩, by repeat (first | exact True.intro | refine And.intro rfl ?_), by repeat (first | exact True.intro | refine And.intro rfl ?_), rfl⟩
      | true =>
        cases hi with
        | unknown =>
          injection (show (S2.toArray, false) = (q1, q2) from hq) with e1 e2
          clear hS hq ih
          show LC _ _ _ _ _ (_ :: _ :: _ :: _ :: _ :: _ :: _ :: _ :: (12, iK 0) :: _) _
          refine wk ?_ trueW trueW
          exact ⟨S2, ⟨hS2l, e1, e2.symm⟩, by repeat (first | exact True.intro | refine And.intro rfl ?_), by repeat (first | exact True.intro | refine And.intro rfl ?_), rfl⟩
        | decreasing =>
          injection (show (S2.toArray, false) = (q1, q2) from hq) with e1 e2
          clear hS hq ih
          show LC _ _ _ _ _ (_ :: _ :: _ :: _ :: _ :: _ :: _ :: _ :: (12, iK 2) :: _) _
          refine wk ?_ trueW trueW
          exact ⟨S2, ⟨hS2l, e1, e2.symm⟩, by repeat (first | exact True.intro | refine And.intro rfl ?_), by repeat (first | exact True.intro | refine And.intro rfl ?_), rfl⟩
        | increasing =>
          have e0 : Go.Sort.partialInsertionSort ltN S2.toArray a b = (q1, q2) := hq
          have c1 := partIns_ S2 g a b (by omega) (by omega) (by omega)
          have hz := pi_size S2.toArray a b
          rw [hS2l, e0] at c1
          rw [e0] at hz
          dsimp only at c1 hz
          show LC _ _ _ _ _ (_ :: _ :: _ :: _ :: _ :: _ :: _ :: _ :: (12, iK 1) :: _) _
          cases q2 with
          | true =>
            have e1 : q1 = R := hS
            rw [e1] at c1
            clear hS hq ih e0
            refine wk ?_ trueW trueW
            show LRet tt [] (fun o m => o = .ret (.t []) ∧ m = mQ g R.toList) LE.ret _ _
            exact wk trueW trueW trueW
          | false =>
            clear hS hq ih e0
            refine wk ?_ trueW trueW
            exact ⟨q1.toList, ⟨by rw [Array.length_toList, hz]; simpa using hS2l, rfl, rfl⟩, by repeat (first | exact True.intro | refine And.intro rfl ?_), by repeat (first | exact True.intro | refine And.intro rfl ?_), rfl⟩
  rintro S3 ⟨hS3l, hS3, hq2⟩
  subst hS3
  subst hq2
  clear hq hel hS2l
  have hel : (S3.map uK).length = S3.length := List.length_map _
  rw [if_neg (show ¬ ((S3.toArray, false).2 = true) from Bool.noConfusion)] at hS
  dsimp only at hS
  rw [arr_get, arr_get] at hS
  have c1 := Less_ (S3.getD (a - 1) default) (S3.getD p default)
  have hstp : StopAt 17 := ⟨trivial⟩
  refine wk ?_ trueW trueW
  refine Stp.mk ?_
  clear hstp
  refine LC.join (τ := Unit) (fun _ => (decide (a > 0) && !ltN (S3.getD (a - 1) default) (S3.getD p default)) = false) (fun _ => E6 g D.length a b l1 wb wp ++ [(11, iK p), (12, iK (hintN hi))]) (fun _ => mQ g S3) ?_ ?_
  · by_cases h0 : 0 < a
    · by_cases hlt : S3.getD (a - 1) default < S3.getD p default
      · rw [show ltN _ _ = true from decide_eq_true hlt] at c1
        have e1 : (decide (a > 0) && !ltN (S3.getD (a - 1) default) (S3.getD p default)) = false := by
          rw [show ltN _ _ = true from decide_eq_true hlt]; simp
        clear hS ih
        refine wk ?_ trueW trueW
        exact ⟨(), e1, by repeat (first | exact True.intro | refine And.intro rfl ?_), by repeat (first | exact True.intro | refine And.intro rfl ?_), rfl⟩
      · rw [show ltN _ _ = false from decide_eq_false hlt] at c1
        have e1 : (decide (a > 0) && !ltN (S3.getD (a - 1) default) (S3.getD p default)) = true := by
          rw [show ltN _ _ = false from decide_eq_false hlt]; simpa using h0
        rw [if_pos e1] at hS
        have c2 := partEq_ S3 g a b p (by omega) hpb.1 hpb.2 (by omega)
        have hm := pe_mid (S := S3) (a := a) (b := b) (p := p) (by omega)
        have hz := pe_size S3.toArray a b p
        rw [hS3l] at c2
        generalize Go.Sort.partitionEqual ltN S3.toArray a b p = r at *
        obtain ⟨mid, d4⟩ := r
        dsimp only at hS hm hz c2
        rw [dif_pos hm] at hS
        clear ih e1
        refine wk ?_ trueW trueW
        exact ⟨⟨mid, b, l1, wb, wp, d4.toList⟩, ⟨hm.2, hb, hl1b, by rw [Array.length_toList, hz]; simpa using hS3l, by dsimp only; omega, hS⟩, by dsimp only; omega, by repeat (first | exact True.intro | refine And.intro rfl ?_), by repeat (first | exact True.intro | refine And.intro rfl ?_), rfl⟩
    · have e1 : (decide (a > 0) && !ltN (S3.getD (a - 1) default) (S3.getD p default)) = false := by simp [h0]
      clear hS ih
      refine wk ?_ trueW trueW
      exact ⟨(), e1, by repeat (first | exact True.intro | refine And.intro rfl ?_), by repeat (first | exact True.intro | refine And.intro rfl ?_), rfl⟩
  rintro _ e1
  rw [e1, if_neg (by decide)] at hS
  clear c1
  have c1 := part_ S3 g a b p (by omega) hpb.1 hpb.2 (by omega)
  have hm := Go.Sort.partition_holds ltN swoN S3.toArray a b p hpb.1 hpb.2 (by simp; omega)
  have hm1 := hm.1
  have hm2 := hm.2.1
  have hz := pt_size S3.toArray a b p
  clear hm e1
  rw [hS3l] at c1
  generalize Go.Sort.partition ltN S3.toArray a b p = r at *
  obtain ⟨mid, ap, d4⟩ := r
  dsimp only at hS hm1 hm2 hz c1
  rw [dif_pos ⟨hm1, hm2⟩] at hS
  have hdl : d4.toList.length = D.length := by rw [Array.length_toList, hz]; simpa using hS3l
  have hof2 : (OfNat.ofNat mid : Nat) = mid := rfl
  by_cases hml : mid - a < b - mid
  · rw [if_pos hml] at hS
    have c2 := ih (mid - a) (by omega) d4.toList g a mid l1 (Nat.le_refl _) (by omega) hm1 (by omega) (by omega)
    have hz2 := pdq_size _ d4 a mid l1 true true (Nat.le_refl _)
    rw [hdl] at c2
    change LM _ _ _ _ (fun o m => o = .ret (.t []) ∧ m = mQ g (Go.Sort.pdq ltN d4 a mid l1 true true).toList) at c2
    generalize Go.Sort.pdq ltN d4 a mid l1 true true = d5 at *
    clear ih
    refine wk ?_ trueW trueW
    exact ⟨⟨mid + 1, b, l1, decide ((((b - a) / 8 : Nat) : Int) ≤ ((mid - a : Nat) : Int)), ap, d5.toList⟩, ⟨hm2, hb, hl1b, by rw [Array.length_toList, hz2, ← Array.length_toList]; exact hdl, by dsimp only; omega, by rw [← hS]; dsimp only; rw [show decide ((((b - a) / 8 : Nat) : Int) ≤ ((mid - a : Nat) : Int)) = decide (mid - a ≥ (b - a) / 8) from decide_eq_decide.mpr (by omega)]⟩, by dsimp only; omega, by repeat (first | exact True.intro | refine And.intro rfl ?_), by repeat (first | exact True.intro | refine And.intro rfl ?_), rfl⟩
  · rw [if_neg hml] at hS
    have c2 := ih (b - (mid + 1)) (by omega) d4.toList g (mid + 1) b l1 (Nat.le_refl _) (by omega) (by omega) (by omega) (by omega)
    have hz2 := pdq_size _ d4 (mid + 1) b l1 true true (Nat.le_refl _)
    rw [hdl] at c2
    change LM _ _ _ _ (fun o m => o = .ret (.t []) ∧ m = mQ g (Go.Sort.pdq ltN d4 (mid + 1) b l1 true true).toList) at c2
    generalize Go.Sort.pdq ltN d4 (mid + 1) b l1 true true = d5 at *
    clear ih
    refine wk ?_ trueW trueW
    exact ⟨⟨a, mid, l1, decide ((((b - a) / 8 : Nat) : Int) ≤ ((b - mid : Nat) : Int)), ap, d5.toList⟩, ⟨hm1, by dsimp only; omega, hl1b, by rw [Array.length_toList, hz2, ← Array.length_toList]; exact hdl, by dsimp only; omega, by rw [← hS]; dsimp only; rw [show decide ((((b - a) / 8 : Nat) : Int) ≤ ((b - mid : Nat) : Int)) = decide (b - mid ≥ (b - a) / 8) from decide_eq_decide.mpr (by omega)]⟩, by dsimp only; omega, by repeat (first | exact True.intro | refine And.intro rfl ?_), by repeat (first | exact True.intro | refine And.intro rfl ?_), rfl⟩
end Jq
end Lf
open Go.RowKit Rg
set_option linter.unusedVariables false
set_option maxRecDepth 100000
namespace Lf
namespace Jq
open Jn (srt)
set_option maxHeartbeats 4000000 in
theorem Sort_ (D : List Nat) (g : Nat) (hl : D.length < 100000000) : LM Try.prog 84 [sQ g D.length] (mQ g D) fun o m => o = .ret (.t []) ∧ m = mQ g (srt D) := by
  have c1 := Len_ D.length (by omega)
  have hb := bl_lt (n := D.length) (k := 31) (by omega)
  have c2 := pdq_ _ D g 0 D.length (Go.Sort.bitsLen D.length) (Nat.le_refl _) hl (Nat.zero_le _) (Nat.le_refl _) (by omega)
  have hs : (Go.Sort.pdq ltN D.toArray 0 D.length (Go.Sort.bitsLen D.length) true true).toList = srt D := by
    have h := sortN D
    unfold Go.Sort.sort at h
    rw [List.size_toArray] at h
    exact h
  rw [hs] at c2
  generalize srt D = R at *
  have hel : (D.map uK).length = D.length := List.length_map _
  generalize Go.Sort.bitsLen D.length = L at *
  clear hs
  refine LM.enter tt Try.func84 rfl rfl rfl (by kernel_rfl) rfl rfl rfl (fun o mo h => by rw [h.2]; rfl) fun F _ => ?_
  exact wk trueW trueW trueW
theorem Sort_9 (D : List Nat) (hl : D.length < 100000000) : LM Try.prog 84 [.w 1090 D.length 1 0 D.length] [(1090, .w 24 1 D.length (D.map uK))] fun o m => o = .ret (.t []) ∧ m = [(1090, .w 24 1 D.length ((srt D).map uK))] :=
  LM.gen [1000] [1090] (by simp) (by simp) rfl (Sort_ D D.length hl) fun ρ hρ => by
    simp at hρ
    exact ⟨by simp [V.ren, hρ], by simp [Mem.ren, M.ren, V.ren, hρ], rfl, by simp [Mem.ren, M.ren, V.ren, hρ]⟩
end Jq
end Lf
end Go.Proofs.Ytgjoecocahpfhaa

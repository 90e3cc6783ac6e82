/- A part of the proof: texts joined. -/
import Derived.Test.YtnmjpbcbldenmaaQ56d7d5a
/- Apply: an update of a store. -/
namespace Go.Proofs.Ytnmjpbcbldenmaa
open Go.RowKit Rg Wm Ar
set_option linter.unusedVariables false
set_option maxRecDepth 100000
namespace Lf
open Pk
def zerosS : List Z := List.replicate 32 (.int .u8) ++ (Z.int .u64 :: Z.int .u64 :: (List.replicate 8 (.int .u8) ++ (Z.int .u64 :: Z.int .u64 :: (List.replicate 160 (.int .u8) ++ [Z.sl, Z.sl]))))
theorem cv_hdrC (keep : Nat → Bool) (nn : Bool) (h : Hdr) : V.cv.go keep nn (hdrC h) = hdrC h := by
  have hb : ∀ (l : List UInt8) (r : List V), V.cv.go keep nn r = r → V.cv.go keep nn (l.map bK ++ r) = l.map bK ++ r := by
    intro l
    induction l with
    | nil => intro r hr; exact hr
    | cons a l ih => intro r hr; rw [List.map_cons, List.cons_append, V.cv.go, ih r hr]; rfl
  have hu : ∀ (n : Nat) (r : List V), V.cv.go keep nn r = r → V.cv.go keep nn (uK n :: r) = uK n :: r := fun n r hr => by
    rw [V.cv.go, hr]; rfl
  have hn : ∀ l : List UInt8, V.cv.go keep nn (l.map bK) = l.map bK := fun l => cv_mapb keep nn l
  rw [hdrC_eq]
  exact hb _ _ (hu _ _ (hu _ _ (hb _ _ (hu _ _ (hu _ _ (hb _ _ (hb _ _ (hb _ _ (hb _ _ (hn _))))))))))
theorem cv_app (keep : Nat → Bool) (nn : Bool) : ∀ a b : List V, V.cv.go keep nn (a ++ b) = V.cv.go keep nn a ++ V.cv.go keep nn b
  | [], _ => rfl
  | x :: r, b => by rw [List.cons_append, V.cv.go, V.cv.go, cv_app keep nn r b]; rfl
theorem zerosS_len : zerosS.length = 206 := rfl
theorem store_b0 : ∃ cs, vfill (fun i => [(0, 204), (204, 1), (205, 1)][i]?) (zerosS.map Z.v) [] = some cs ∧ V.cv.go (fun _ => false) true cs = hx zeroH (sV []) (sV []) := by
  refine ⟨_, rfl, ?_⟩
  rw [hx_eq, hdrC_eq]
  rfl
theorem store_b {h : Hdr} (k : h.ok) (l b : List Nat) : ∃ cs, vfill (fun i => [(0, 204), (204, 1), (205, 1)][i]?) (zerosS.map Z.v) [(0, .a (hdrC h)), (1, sV l), (2, sV b)] = some cs ∧ V.cv.go (fun _ => false) true cs = hx h (sV l) (sV b) := by
  have hl := hdrC_len k
  refine ⟨hdrC h ++ [sV l, sV b], ?_, ?_⟩
  · have hz : (zerosS.map Z.v).length = 206 := rfl
    have e1 : splice (zerosS.map Z.v) 0 (hdrC h) = hdrC h ++ [.nil, .nil] := by
      unfold splice
      rw [List.take_zero, List.nil_append, Nat.zero_add, hl]
      rfl
    have e2 : splice (hdrC h ++ [.nil, .nil]) 204 [sV l] = hdrC h ++ [sV l, .nil] := by
      unfold splice
      rw [List.take_append_of_le_length (by omega), List.take_of_length_le (by omega)]
      have := drop_at hl (b := [V.nil, V.nil]) 1
      rw [show 204 + [sV l].length = 204 + 1 from rfl, this]
      simp
    have e3 : splice (hdrC h ++ [sV l, .nil]) 205 [sV b] = hdrC h ++ [sV l, sV b] := by
      have := hx_set (a := sV l) (b := .nil) (c := sV b) k rfl
      rwa [hx_eq, hx_eq] at this
    have e4 : (V.a (hdrC h)).ok = true := rfl
    have e5 : ∀ l, (sV l).ok = true := fun _ => rfl
    have n1 : (hdrC h ++ [V.nil, V.nil]).length = 206 := by rw [List.length_append, hl]; rfl
    have n2 : (hdrC h ++ [sV l, V.nil]).length = 206 := by rw [List.length_append, hl]; rfl
    simp only [vfill, cells_a, cells_s, List.getElem?_cons_zero, List.getElem?_cons_succ, e1, e2, e3, e4, e5, hl, hz, n1, n2]
    rfl
  · rw [cv_app, cv_hdrC, hx_eq]
    rfl
def badM (s : StM) (u : UpM) : Bool := !right s.seats || (!decide (s.next = []) && !right s.next) || (!decide (u.next = []) && !right u.next)
/-- What an update makes of a store. -/
def applyM (s : StM) (u : UpM) (votes : List St.VoteT) : StM × Nat :=
  if badM s u = true then (zeroS, 23)
  else if (judgeM s u.hdr.number).2 ≠ 0 then (zeroS, (judgeM s u.hdr.number).2)
  else if St.quo u.mask (judgeM s u.hdr.number).1.length = false then (zeroS, 26)
  else if St.andn0 u.mask (St.tally (judgeM s u.hdr.number).1 (sumB (hdrB u.hdr)) votes) = false then (zeroS, 27)
  else if u.next ≠ [] ∧ sumB (enc (Sr.seatI u.next)) ≠ u.hdr.next then (zeroS, 28)
  else (⟨u.hdr, (judgeM s u.hdr.number).1, if u.next = [] ∧ s.hdr.number / 8 = u.hdr.number / 8 then s.next else u.next⟩, 0)
theorem judge_ok {s : StM} (k : s.ok) (n : Nat) : seats64 (judgeM s n).1 ∧ (judgeM s n).1.length < 2000000 ∧ (judgeM s n).2 < 100 := by
  unfold judgeM
  split
  · exact ⟨fun x hx => by simp at hx, by decide, by decide⟩
  · split
    · exact ⟨k.seats, k.sl, (by decide : 0 < 100)⟩
    · split
      · exact ⟨fun x hx => by simp at hx, by decide, by decide⟩
      · exact ⟨k.next, k.nl, (by decide : 0 < 100)⟩
namespace Sr
set_option maxHeartbeats 20000000 in
theorem Apply (s : StM) (u : UpM) (votes : List St.VoteT) (k : s.ok) (ku : u.ok) (hv : ∀ v ∈ votes, St.VoteOk v) (hnv : votes.length < 4611686018427387904) :
    LF Try.prog 22 [.a (storeC s), .a (updC u), .s none (votes.map St.voteV)] (fun _ => .t [.a (storeC (applyM s u votes).1), .k (.int .i64 (((applyM s u votes).2 : Nat) : Int))]) none := by
  obtain ⟨jk1, jk2, jk3⟩ := judge_ok k u.hdr.number
  have kh := k.hdr
  have kh2 := ku.hdr
  have hn1 := kh.number
  have hn2 := kh2.number
  have c1 := RightB s.seats k.seats (by have := k.sl; omega)
  have c2 := none_ s.next (by have := k.nl; omega)
  have c3 := RightB s.next k.next (by have := k.nl; omega)
  have c4 := none_ u.next (by have := ku.nl; omega)
  have c5 := RightB u.next ku.next (by have := ku.nl; omega)
  have c6 := judge s u.hdr.number k hn2
  have c7 := St.Quorum u.mask (judgeM s u.hdr.number).1.length ku.mask (by omega)
  have c8 := HSumB u.hdr kh2
  have c9 := St.Voted (judgeM s u.hdr.number).1 u.mask (sumB (hdrB u.hdr)) votes ku.mask jk1 (by omega) (sumB_len _) hv hnv
  have c10 := SeatSum u.next ku.next (by have := ku.nl; omega)
  have c11 := CloneU (judgeM s u.hdr.number).1 (by omega)
  have c12 := CloneU u.next (by have := ku.nl; omega)
  have c13 := CloneU s.next (by have := k.nl; omega)
  have c14 := Period s.hdr.number hn1
  have c15 := Period u.hdr.number hn2
  have hsl := sumB_len (hdrB u.hdr)
  have hsl2 := sumB_len (enc (seatI u.next))
  have hnx := kh2.next
  obtain ⟨z1, z2, z3⟩ := store_b0
  obtain ⟨cs, b1, b2⟩ := store_b kh2 (judgeM s u.hdr.number).1 u.next
  have ld1 := @hx_a
  have ld2 := @hx_b
  have ld3 := @hx_n
  have ld4 := @hx_h
  have ld5 := @hx_x
  have sp1 := @hx_set
  have hrf := hx_refsS
  have hrg := hx_refsU
  have hr3 : V.refs.go [] [V.a (hdrC u.hdr)] = true := by rw [V.refs.go, V.refs, hdrC_refs]; rfl
  have hls := hx_len kh (sV s.seats) (sV s.next)
  have hlu := hx_len kh2 (uK u.mask) (sV u.next)
  have hl0 := hx_len zeroH_ok (sV []) (sV [])
  have hle0 : 0 + (hx zeroH (sV []) (sV [])).length ≤ 206 := by omega
  have hlo := hx_len kh2 (sV (judgeM s u.hdr.number).1) (sV u.next)
  have hle1 : 0 + (hx u.hdr (sV (judgeM s u.hdr.number).1) (sV u.next)).length ≤ 206 := by omega
  have hle2 : 205 + 1 ≤ (hx u.hdr (sV (judgeM s u.hdr.number).1) (sV u.next)).length := by omega
  have hlo2 := hx_len kh2 (sV (judgeM s u.hdr.number).1) (sV s.next)
  have hle3 : 0 + (hx u.hdr (sV (judgeM s u.hdr.number).1) (sV s.next)).length ≤ 206 := by omega
  unfold applyM badM
  simp only [storeC, updC, zeroS] at *
  generalize hgj : judgeM s u.hdr.number = jj at *
  obtain ⟨l, e⟩ := jj
  simp only at *
  clear hgj jk1 hv hnv
  generalize sumB (hdrB u.hdr) = sm at *
  generalize sumB (enc (seatI u.next)) = sm2 at *
  generalize hd8 : s.hdr.number / 8 = p at *
  generalize hd9 : u.hdr.number / 8 = q at *
  clear hd8 hd9 k ku
  obtain ⟨h, sa, sn⟩ := s
  obtain ⟨h2, mk, un⟩ := u
  simp only at *
  generalize right sa = r1 at *
  generalize right sn = r2 at *
  generalize right un = r3 at *
  unfold St.andn0
  generalize decide (andn mk (St.tally l sm votes) = 0) = vt at *
  generalize St.quo mk l.length = qq at *
  cases r1
  · rw [if_pos (by cases r2 <;> cases r3 <;> simp)]
    refine LFx.mk' tt Try.func22 rfl rfl rfl (by kernel_rfl) rfl rfl fun F => ?_
    exact wk trueW trueW trueW
  · by_cases g1 : sn = []
    · rw [decide_eq_true g1] at c2 ⊢
      have hr2 : r2 = r2 := rfl
      by_cases g2 : un = []
      · rw [decide_eq_true g2] at c4 ⊢
        rw [if_neg (by simp)]
        by_cases he : e = 0
        · subst he
          rw [if_neg (by simp)]
          cases qq
          · rw [if_pos rfl]
            refine LFx.mk' tt Try.func22 rfl rfl rfl (by kernel_rfl) rfl rfl fun F => ?_
            exact wk trueW trueW trueW
          · rw [if_neg (by simp)]
            cases vt
            · rw [if_pos rfl]
              refine LFx.mk' tt Try.func22 rfl rfl rfl (by kernel_rfl) rfl rfl fun F => ?_
              exact wk trueW trueW trueW
            · rw [if_neg (by simp)]
              rw [if_neg (fun h => h.1 g2)]
              by_cases hpq : p = q
              · rw [if_pos ⟨g2, hpq⟩]
                subst hpq
                refine LFx.mk' tt Try.func22 rfl rfl rfl (by kernel_rfl) rfl rfl fun F => ?_
                exact wk trueW trueW trueW
              · rw [if_neg (fun h => hpq h.2)]
                refine LFx.mk' tt Try.func22 rfl rfl rfl (by kernel_rfl) rfl rfl fun F => ?_
                exact wk trueW trueW trueW
        · rw [if_pos he]
          refine LFx.mk' tt Try.func22 rfl rfl rfl (by kernel_rfl) rfl rfl fun F => ?_
          exact wk trueW trueW trueW
      · rw [decide_eq_false g2] at c4 ⊢
        cases r3
        · rw [if_pos (by simp)]
          refine LFx.mk' tt Try.func22 rfl rfl rfl (by kernel_rfl) rfl rfl fun F => ?_
          exact wk trueW trueW trueW
        · rw [if_neg (by simp)]
          by_cases he : e = 0
          · subst he
            rw [if_neg (by simp)]
            cases qq
            · rw [if_pos rfl]
              refine LFx.mk' tt Try.func22 rfl rfl rfl (by kernel_rfl) rfl rfl fun F => ?_
              exact wk trueW trueW trueW
            · rw [if_neg (by simp)]
              cases vt
              · rw [if_pos rfl]
                refine LFx.mk' tt Try.func22 rfl rfl rfl (by kernel_rfl) rfl rfl fun F => ?_
                exact wk trueW trueW trueW
              · rw [if_neg (by simp)]
                by_cases hs : sm2 = h2.next
                · rw [if_neg (fun h => h.2 hs), if_neg (fun h => g2 h.1)]
                  have hnn : ¬ ¬ sm2 = h2.next := fun f => f hs
                  refine LFx.mk' tt Try.func22 rfl rfl rfl (by kernel_rfl) rfl rfl fun F => ?_
                  exact wk trueW trueW trueW
                · rw [if_pos ⟨g2, hs⟩]
                  refine LFx.mk' tt Try.func22 rfl rfl rfl (by kernel_rfl) rfl rfl fun F => ?_
                  exact wk trueW trueW trueW
          · rw [if_pos he]
            refine LFx.mk' tt Try.func22 rfl rfl rfl (by kernel_rfl) rfl rfl fun F => ?_
            exact wk trueW trueW trueW
    · rw [decide_eq_false g1] at c2 ⊢
      cases r2
      · rw [if_pos (by simp)]
        refine LFx.mk' tt Try.func22 rfl rfl rfl (by kernel_rfl) rfl rfl fun F => ?_
        exact wk trueW trueW trueW
      · have hr2 : True := trivial
        by_cases g2 : un = []
        · rw [decide_eq_true g2] at c4 ⊢
          rw [if_neg (by simp)]
          by_cases he : e = 0
          · subst he
            rw [if_neg (by simp)]
            cases qq
            · rw [if_pos rfl]
              refine LFx.mk' tt Try.func22 rfl rfl rfl (by kernel_rfl) rfl rfl fun F => ?_
              exact wk trueW trueW trueW
            · rw [if_neg (by simp)]
              cases vt
              · rw [if_pos rfl]
                refine LFx.mk' tt Try.func22 rfl rfl rfl (by kernel_rfl) rfl rfl fun F => ?_
                exact wk trueW trueW trueW
              · rw [if_neg (by simp)]
                rw [if_neg (fun h => h.1 g2)]
                by_cases hpq : p = q
                · rw [if_pos ⟨g2, hpq⟩]
                  subst hpq
                  refine LFx.mk' tt Try.func22 rfl rfl rfl (by kernel_rfl) rfl rfl fun F => ?_
                  exact wk trueW trueW trueW
                · rw [if_neg (fun h => hpq h.2)]
                  refine LFx.mk' tt Try.func22 rfl rfl rfl (by kernel_rfl) rfl rfl fun F => ?_
                  exact wk trueW trueW trueW
          · rw [if_pos he]
            refine LFx.mk' tt Try.func22 rfl rfl rfl (by kernel_rfl) rfl rfl fun F => ?_
            exact wk trueW trueW trueW
        · rw [decide_eq_false g2] at c4 ⊢
          cases r3
          · rw [if_pos (by simp)]
            refine LFx.mk' tt Try.func22 rfl rfl rfl (by kernel_rfl) rfl rfl fun F => ?_
            exact wk trueW trueW trueW
          · rw [if_neg (by simp)]
            by_cases he : e = 0
            · subst he
              rw [if_neg (by simp)]
              cases qq
              · rw [if_pos rfl]
                refine LFx.mk' tt Try.func22 rfl rfl rfl (by kernel_rfl) rfl rfl fun F => ?_
                exact wk trueW trueW trueW
              · rw [if_neg (by simp)]
                cases vt
                · rw [if_pos rfl]
                  refine LFx.mk' tt Try.func22 rfl rfl rfl (by kernel_rfl) rfl rfl fun F => ?_
                  exact wk trueW trueW trueW
                · rw [if_neg (by simp)]
                  by_cases hs : sm2 = h2.next
                  · rw [if_neg (fun h => h.2 hs), if_neg (fun h => g2 h.1)]
                    have hnn : ¬ ¬ sm2 = h2.next := fun f => f hs
                    refine LFx.mk' tt Try.func22 rfl rfl rfl (by kernel_rfl) rfl rfl fun F => ?_
                    exact wk trueW trueW trueW
                  · rw [if_pos ⟨g2, hs⟩]
                    refine LFx.mk' tt Try.func22 rfl rfl rfl (by kernel_rfl) rfl rfl fun F => ?_
                    exact wk trueW trueW trueW
            · rw [if_pos he]
              refine LFx.mk' tt Try.func22 rfl rfl rfl (by kernel_rfl) rfl rfl fun F => ?_
              exact wk trueW trueW trueW
end Sr
end Lf
end Go.Proofs.Ytnmjpbcbldenmaa

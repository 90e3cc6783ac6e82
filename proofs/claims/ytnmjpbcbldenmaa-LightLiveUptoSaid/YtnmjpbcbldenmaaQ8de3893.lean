/- A part of the proof: texts joined. -/
import Derived.Test.YtnmjpbcbldenmaaQ753f678
/- What is followed is so. -/
namespace Go.Proofs.Ytnmjpbcbldenmaa
open Go.RowKit Rg Wm Ar
set_option linter.unusedVariables false
set_option maxRecDepth 100000
namespace Lf
open Pk
theorem flatT_len (us : List UpM) : (us.flatMap upT).length = 2 * us.length := by
  induction us with
  | nil => rfl
  | cons u us ih => rw [List.flatMap_cons, List.length_append, ih]; simp [upT]; omega
theorem flatT_snoc {us : List UpM} {i : Nat} (h : i < us.length) : (us.take (i + 1)).flatMap upT = (us.take i).flatMap upT ++ [hdrB (us.getD i default).hdr, enc (Sr.seatI (us.getD i default).next)] := by
  rw [Sr.take_get h, List.flatMap_append]; rfl
theorem texts_len {hs : List Hdr} {a : List (List Nat)} (k : CanOk hs a) {us : List UpM} (ku : ∀ u ∈ us, UpM.ok u) : ∀ t ∈ textsM hs a ++ us.flatMap upT, t.length < 1073741824 := by
  intro t ht
  rcases List.mem_append.1 ht with ht | ht
  · rcases List.mem_append.1 ht with ht | ht
    · obtain ⟨h, hh, rfl⟩ := List.mem_map.1 ht
      have := hdrB_len (k.1 _ hh); omega
    · obtain ⟨l, hl, rfl⟩ := List.mem_map.1 ht
      have := Sr.seatI_len (k.2.1 _ hl).1 (k.2.1 _ hl).2
      show (enc _).length < _
      omega
  · obtain ⟨u, hu, ht⟩ := List.mem_flatMap.1 ht
    simp only [upT, List.mem_cons, List.not_mem_nil, or_false] at ht
    have k1 := ku _ hu
    rcases ht with rfl | rfl
    · have := hdrB_len k1.hdr; omega
    · have := Sr.seatI_len k1.next (by have := k1.nl; omega)
      show (enc _).length < _
      omega
namespace Sr
set_option maxHeartbeats 4000000 in
theorem canon (hs : List Hdr) (a : List (List Nat)) : LF Try.prog 30 [hsV hs, asV a] (fun _ => canV hs a) none := by
  have hrf := allRefs
  refine LFx.mk' tt Try.func30 rfl rfl rfl (by kernel_rfl) rfl rfl fun F => ?_
  exact wk trueW trueW trueW
set_option maxHeartbeats 16000000 in
theorem LightTrue (hs : List Hdr) (a : List (List Nat)) (s : StM) (us : List UpM) (votes : List St.VoteT) (k : CanOk hs a) (ks : s.ok) (ku : ∀ u ∈ us, UpM.ok u) (hn : us.length < 10000000) (hv : ∀ v ∈ votes, St.VoteOk v) (hnv : votes.length < 4611686018427387904) :
    LF Try.prog 9 [hsV hs, asV a, .a (storeC s), .s none (us.map updV), .s none (votes.map St.voteV)] (fun _ => .k (.bool true)) none := by
  have c1 := alive23
  have c2 := canon hs a
  have hrf := allRefs
  have kh := ks.hdr
  have hls := hx_len kh (sV s.seats) (sV s.next)
  have hle0 : 0 + (hx s.hdr (sV s.seats) (sV s.next)).length ≤ 206 := by omega
  by_cases h1 : RightC hs a
  · have c3 := Right hs a k true ⟨fun _ => h1, fun _ => rfl⟩
    by_cases h2 : HonestP hs a votes
    · have c4 := Honest hs a k votes hv hnv true ⟨fun _ => h2, fun _ => rfl⟩
      by_cases h3 : trustP hs a s
      · have c5 := Trusts hs a k h1 s ks true ⟨fun _ => h3, fun _ => rfl⟩
        have c6 := Play s us votes ks ku hn hv hnv
        obtain ⟨kX, hXl⟩ := play_len ks ku votes
        have hL := true_all k h1 h2 us s [] ks h3 ku
        rw [show us.foldl (stepM votes) (s, []) = playM s us votes from rfl] at hL
        generalize playM s us votes = r at *
        obtain ⟨X, es⟩ := r
        simp only at *
        have khX := kX.hdr
        have hlX := hx_len khX (sV X.seats) (sV X.next)
        have hle1 : 0 + (hx X.hdr (sV X.seats) (sV X.next)).length ≤ 206 := by omega
        by_cases h4 : trustP hs a X
        · have c7 := Trusts hs a k h1 X kX true ⟨fun _ => h4, fun _ => rfl⟩
          clear h1 h2 h3 h4 hL k ks ku hv kX
          simp only [storeC] at *
          refine LFx.mk' tt Try.func9 rfl rfl rfl (by kernel_rfl) rfl rfl fun F => ?_
          exact wk trueW trueW trueW
        · have c7 := Trusts hs a k h1 X kX false ⟨fun h => (by cases h), fun f => absurd f h4⟩
          have c8 := Texts hs a k 48
          have hL' := hL.resolve_left h4
          clear hL
          obtain ⟨kh1, kh2, kh3, kh4⟩ := k
          have hp : 0 < hs.length := List.length_pos_iff.2 h2.1
          have k0 := kh1 _ (getD_mem hp)
          have hl0 := hdrC_len k0
          have b0 := k0.number
          have ha0 : 0 < a.length := by
            obtain ⟨l, hl⟩ := h1.told _ (getD_mem hp)
            exact List.length_pos_of_mem (ofM_mem hl)
          simp only [storeC] at *
          refine LFx.mk' tt Try.func9 rfl rfl rfl (by kernel_rfl) rfl rfl fun F => ?_
          refine wk ?_ trueW trueW
          refine LC.loop2 (fun j S => [(0, hsV hs), (1, asV a), (3, .s none (us.map updV)), (14, .s (some 48) (tsV S)), (49, .s none (us.map updV)), (50, .k (.int .i64 ((us.length : Nat) : Int))), (51, .k (.int .i64 ((j : Nat) : Int)))]) (fun j S => [(48, .r 39 1 S.length)]) (fun j S => j ≤ us.length ∧ S = textsM hs a ++ (us.take j).flatMap upT ∧ ∀ m, m < j → ¬ beyond hs a (us.getD m default)) ((us.length - ·)) (0) ((textsM hs a)) ⟨by omega, by simp, fun m hm => absurd hm (by omega)⟩ ⟨rfl, rfl, rfl, rfl, rfl, rfl, rfl, trivial⟩ ⟨rfl, trivial⟩ rfl rfW rfW ?_
          rintro j S ⟨hj, hS, hB⟩
          have hSl : S.length = (textsM hs a).length + 2 * j := by rw [hS, List.length_append, flatT_len, List.length_take]; omega
          have htl : (textsM hs a).length = hs.length + a.length := by unfold textsM; rw [List.length_append, List.length_map, List.length_map]
          have hz := tsV_one S
          clear c1 c2 c3 c4 c5 c6 c7 c8
          by_cases hjl : j < us.length
          · have kU := ku _ (getD_mem hjl)
            have kuh := kU.hdr
            have kun := kuh.number
            have hlU := updV_len kU
            have hlU0 : 0 + (updV (us.getD j default)).cells.length ≤ 206 := by omega
            have ld1 := @hx_h
            have ld2 := @hx_b
            have ld3 := @hx_n
            have ld4 := @part_hnQ
            have c1 := BWrite _ kuh
            have c2 := VText _ kU.next (by have := kU.nl; omega)
            have c3 := Period _ kun
            have c4 := Period _ b0
            have hw : IntKind.u64.wrap ((((hs.getD 0 default).number / 8 + a.length : Nat) : Int) - ((1 : Nat) : Int)) = (((hs.getD 0 default).number / 8 + a.length - 1 : Nat) : Int) := by rw [wrap_u64 (by omega)]; omega
            have hsn := flatT_snoc hjl
            by_cases hby : (hs.getD 0 default).number / 8 + a.length - 1 ≤ (us.getD j default).hdr.number / 8
            · clear hS hB hL' h1 h2 h3 h4 kh1 kh2 ku ks kX hv hsn
              generalize hdrB (us.getD j default).hdr = t1 at *
              generalize enc (seatI (us.getD j default).next) = t2 at *
              exact wk trueW trueW trueW
            · have hok : j + 1 ≤ us.length ∧ S ++ [hdrB (us.getD j default).hdr, enc (seatI (us.getD j default).next)] = textsM hs a ++ (us.take (j + 1)).flatMap upT ∧ ∀ m, m < j + 1 → ¬ beyond hs a (us.getD m default) := ⟨hjl, by rw [hsn, hS, List.append_assoc], fun m hm => by
                by_cases e : m = j
                · subst e; exact hby
                · exact hB m (by omega)⟩
              clear hS hB hL' h1 h2 h3 h4 kh1 kh2 ku ks kX hv hsn
              generalize hdrB (us.getD j default).hdr = t1 at *
              generalize enc (seatI (us.getD j default).next) = t2 at *
              exact wk trueW trueW trueW
          · obtain rfl : j = us.length := by omega
            rw [List.take_length] at hS
            have hcl : Clashes S := by
              rcases hL' with h | ⟨u, hu, h⟩
              · rw [hS]; exact h
              · obtain ⟨m, hm, e⟩ := List.mem_iff_getElem.1 hu
                exact absurd h (by
                  have := hB m hm
                  rwa [List.getD_eq_getElem?_getD, List.getElem?_eq_getElem hm, Option.getD_some, e] at this)
            have c1 := (Clash_ S (by omega) (by rw [hS]; exact texts_len ⟨kh1, kh2, kh3, kh4⟩ ku)).1 hcl
            clear hS hB hL' h1 h2 h3 h4 kh1 kh2 ku ks kX hv hcl
            exact wk trueW trueW trueW
      · have c5 := Trusts hs a k h1 s ks false ⟨fun h => (by cases h), fun f => absurd f h3⟩
        clear h1 h2 h3 k ks ku hv
        simp only [storeC] at *
        refine LFx.mk' tt Try.func9 rfl rfl rfl (by kernel_rfl) rfl rfl fun F => ?_
        exact wk trueW trueW trueW
    · have c4 := Honest hs a k votes hv hnv false ⟨fun h => (by cases h), fun f => absurd f h2⟩
      clear h1 h2 k ks ku hv
      simp only [storeC] at *
      refine LFx.mk' tt Try.func9 rfl rfl rfl (by kernel_rfl) rfl rfl fun F => ?_
      exact wk trueW trueW trueW
  · have c3 := Right hs a k false ⟨fun h => (by cases h), fun f => absurd f h1⟩
    clear h1 k ks ku hv
    simp only [storeC] at *
    refine LFx.mk' tt Try.func9 rfl rfl rfl (by kernel_rfl) rfl rfl fun F => ?_
    exact wk trueW trueW trueW
end Sr
end Lf
end Go.Proofs.Ytnmjpbcbldenmaa

/- A part of the proof: texts joined. -/
import Derived.Test.YtnmjpbcbldenmaaQ9b45291
/- What is settled is followed. -/
namespace Go.Proofs.Ytnmjpbcbldenmaa
open Go.RowKit Rg Wm Ar
set_option linter.unusedVariables false
set_option maxRecDepth 100000
namespace Lf
open Pk
theorem liveV_snoc (hs : List Hdr) (a : List (List Nat)) (o : List St.VoteT) (i : Nat) : liveV hs a o (i + 1) = liveV hs a o i ++ liveW hs a i := by
  unfold liveV; rw [List.range_succ, List.flatMap_append, List.append_assoc]; simp
theorem liveUs_snoc (hs : List Hdr) (a : List (List Nat)) (i : Nat) : liveUs hs a (i + 1) = liveUs hs a i ++ [liveU hs a i] := by
  unfold liveUs; rw [List.range_succ, List.map_append]; rfl
theorem liveV_len {hs : List Hdr} {a : List (List Nat)} (R : RightC hs a) (o : List St.VoteT) : ∀ i, i ≤ hs.length → (liveV hs a o i).length ≤ o.length + 16 * i
  | 0, _ => by simp [liveV]
  | i + 1, h => by
    have h1 := liveV_len R o i (by omega)
    have h2 := right_pos (live_told R (show i < hs.length from h)).2
    rw [liveV_snoc, List.length_append]
    have : (liveW hs a i).length = (lvL hs a i).length := List.length_map _
    omega
theorem liveV_ok {hs : List Hdr} {a : List (List Nat)} {k : CanOk hs a} (R : RightC hs a) {o : List St.VoteT} (ho : ∀ v ∈ o, St.VoteOk v) {i : Nat} (hi : i ≤ hs.length) : ∀ v ∈ liveV hs a o i, St.VoteOk v := fun v hv => by
  rcases List.mem_append.1 hv with hv | hv
  · exact ho _ hv
  · obtain ⟨j, hj, hv⟩ := List.mem_flatMap.1 hv
    obtain ⟨s, hs', rfl⟩ := List.mem_map.1 hv
    have hj' : j < hs.length := by have := List.mem_range.1 hj; omega
    exact ⟨(k.2.1 _ (ofM_mem (live_told R hj').1)).1 _ hs', sumB_len _⟩
theorem part_hbQ {ti : TI} {h : Hdr} {a b : V} (k : h.ok) (hd : ti.d.agg = false) : ti.part ((hx h a b).drop 205) 0 = some b := part_num (r := []) hd (by
  rw [List.drop_zero, hx_eq]; have := drop_at (hdrC_len k) (b := [a, b]) 1; exact this)
namespace Sr
theorem CloneVt (es : List V) (hs : ∀ e ∈ es, e.cells.length = 33) (hl : es.length < 1073741824) (k : Nat) : LM Try.prog 39 [.s none es] [] fun o m => o = .ret (.s (some k) es) ∧ m = [(k, .r 79 33 es.length)] := by
  refine LM.row1 (k0 := 5) (fun _ => rfl) ?_ k
  refine LFx.mk' tt Try.func39 rfl rfl rfl (by kernel_rfl) rfl rfl fun F => ?_
  refine LC.seq (LC.region (LS.pp rfl rfl (Does.assign rfl rfl) rfl (LS.nil ?_)))
  refine LC.seq (LC.seq (LC.region (LS.pp rfl rfl (Does.move rfl rfl) rfl (LS.eqNil tt rfl rfl rfl rfl rfl rfl rfl (fun he => LS.nil ?_) (LS.nil ?_)))))
  · subst he
    refine LC.condT rfl (LC.seq (LC.region (LS.pp rfl rfl (Does.assign rfl rfl) rfl (LS.nil ?_))))
    refine LC.nilrow 2 5 79 33 rfl rfl rfl ?_
    exact wk trueW trueW trueW
  · refine LC.condF rfl ?_
    exact wk trueW trueW trueW
set_option maxHeartbeats 16000000 in
theorem LightLive (hs : List Hdr) (a : List (List Nat)) (o : List St.VoteT) (k : CanOk hs a) (hv : ∀ v ∈ o, St.VoteOk v) (hnv : o.length < 2000000) :
    LF Try.prog 10 [hsV hs, asV a, .s none (o.map St.voteV)] (fun _ => .k (.bool true)) none := by
  have c1 := alive23
  have c2 := canon hs a
  have hrf := allRefs
  have hbr := St.bare_v
  have hz0 : ∀ e ∈ o.map St.voteV, e.cells.length = 33 := fun e he => by
    obtain ⟨v, hv', rfl⟩ := List.mem_map.1 he; exact St.voteC_len (hv _ hv')
  have hol : (o.map St.voteV).length = o.length := List.length_map _
  by_cases h1 : RightC hs a
  · have c3 := Right hs a k true ⟨fun _ => h1, fun _ => rfl⟩
    by_cases h40 : hs.length ≤ 40
    · have c4 := CloneVt (o.map St.voteV) hz0 (by omega) 36
      simp only [List.length_map] at c4
      obtain ⟨kh, ka, kn, kan⟩ := k
      refine LFx.mk' tt Try.func10 rfl rfl rfl (by kernel_rfl) rfl rfl fun F => ?_
      refine wk ?_ trueW trueW
      refine LC.nilrow 9 60 64 206 rfl rfl rfl ?_
      refine LC.loop2 (fun i S => [(0, hsV hs), (1, asV a), (7, .p 7 0), (8, .s (some 36) (S.1.map St.voteV)), (9, .s (some 60) (S.2.map updV)), (37, hsV hs), (38, .k (.int .i64 ((hs.length : Nat) : Int))), (39, .k (.int .i64 ((i : Nat) : Int)))]) (fun i S => [(7, .b [hsV hs, asV a]), (36, .r 79 33 S.1.length), (60, .r 64 206 S.2.length)]) (fun i S => i ≤ hs.length ∧ S.1 = liveV hs a o i ∧ S.2 = liveUs hs a i ∧ ∀ j, j < i → condI hs a j) ((hs.length - ·)) (0) ((o, [])) ⟨by omega, by simp [liveV], rfl, fun j hj => absurd hj (by omega)⟩ ⟨rfl, rfl, rfl, rfl, rfl, rfl, rfl, rfl, trivial⟩ ⟨rfl, rfl, rfl, trivial⟩ rfl rfW rfW ?_
      rintro i ⟨W, U⟩ ⟨hi, hW, hU, hc⟩
      simp only at hW hU
      have hWl := liveV_len h1 o i hi
      have hUl : U.length = i := by rw [hU, liveUs_len]
      clear c1 c2 c3 c4 hz0 hol
      have ld1 := @part_hn
      have ld2 := @part_hnQ
      by_cases hlt : i < hs.length
      · have hmem := getD_mem hlt
        have k1 := kh _ hmem
        have n1 : (hs.getD i default).number < 18446744073709551616 := k1.number
        have l1 := hdrC_len k1
        have sm1 : (hs.getD i default).number ≤ 4611686018427387904 := h1.small _ hmem
        obtain ⟨e1, r1⟩ := live_told h1 hlt
        have c1 := Of hs a (hs.getD i default).number kh (by omega) (by omega) n1
        have c2 := Of hs a ((hs.getD i default).number + 8) kh (by omega) (by omega) (by omega)
        rw [show ofM hs a (hs.getD i default).number = _ from e1] at c1
        simp only [ofV] at c1
        have hWok := liveV_ok (k := ⟨kh, ka, kn, kan⟩) h1 hv hi
        rw [← hW] at hWok hWl
        have c3 := HSumB _ k1
        have hsm := sumB_len (hdrB (hs.getD i default))
        have hr16 := right_pos r1
        have l64 := (ka _ (ofM_mem e1)).1
        have hfin : ∀ nx, ofM hs a (hN hs i + 8) = some nx → (0 < i → hN hs (i - 1) < hN hs i ∧ hN hs i / 8 - hN hs (i - 1) / 8 ≤ 1) → i + 1 ≤ hs.length ∧ W ++ (lvL hs a i).map (fun s => (s, sumB (hdrB (hs.getD i default)))) = liveV hs a o (i + 1) ∧ U ++ [⟨hs.getD i default, 2 ^ (lvL hs a i).length - 1, nx⟩] = liveUs hs a (i + 1) ∧ ∀ j, j < i + 1 → condI hs a j := fun nx e2 h => by
          refine ⟨hlt, by rw [liveV_snoc, hW]; rfl, ?_, fun j hj => ?_⟩
          · rw [liveUs_snoc, hU]
            have : lvN hs a i = nx := by unfold lvN; rw [e2]; rfl
            unfold liveU
            rw [this]
          · by_cases e : j = i
            · subst e; exact ⟨h, by rw [e2]; simp⟩
            · exact hc j (by omega)
        have hnx : ∀ nx, ofM hs a (hN hs i + 8) = some nx → 0 < nx.length ∧ seats64 nx := fun nx e2 => ⟨(right_pos (h1.seats _ (ofM_mem e2))).1, (ka _ (ofM_mem e2)).1⟩
        have hzU : ∀ e ∈ U.map updV, e.cells.length = 206 := fun e he => by
          obtain ⟨u, hu, rfl⟩ := List.mem_map.1 he
          rw [hU] at hu
          obtain ⟨j, hj, rfl⟩ := List.mem_map.1 hu
          have := List.mem_range.1 hj
          exact hx_len (kh _ (getD_mem (show j < hs.length by omega))) _ _
        clear hW hU hc e1 r1
        generalize lvL hs a i = l at *
        generalize sumB (hdrB (hs.getD i default)) = sm at *
        by_cases hi0 : 0 < i
        · have k2 := kh _ (getD_mem (show i - 1 < hs.length by omega))
          have l2 := hdrC_len k2
          have n2 := k2.number
          have hw : IntKind.i64.wrap ((i : Int) - ((1 : Nat) : Int)) = ((i - 1 : Nat) : Int) := by rw [wrap_i64 (by omega)]; omega
          by_cases p2 : (hs.getD i default).number ≤ (hs.getD (i - 1) default).number
          · clear h1 ka hfin hnx hWok hzU
            generalize ofM hs a ((hs.getD i default).number + 8) = z at *
            cases z
            · simp only [ofV] at c2
              exact wk trueW trueW trueW
            · simp only [ofV] at c2
              exact wk trueW trueW trueW
          · have hw2 : IntKind.u64.wrap ((((hs.getD i default).number / 8 : Nat) : Int) - (((hs.getD (i - 1) default).number / 8 : Nat) : Int)) = (((hs.getD i default).number / 8 - (hs.getD (i - 1) default).number / 8 : Nat) : Int) := by rw [wrap_u64 (by omega)]; omega
            by_cases p3 : 1 < (hs.getD i default).number / 8 - (hs.getD (i - 1) default).number / 8
            · clear h1 ka hfin hnx hWok hzU
              generalize ofM hs a ((hs.getD i default).number + 8) = z at *
              cases z
              · simp only [ofV] at c2
                exact wk trueW trueW trueW
              · simp only [ofV] at c2
                exact wk trueW trueW trueW
            · rcases e2 : ofM hs a ((hs.getD i default).number + 8) with _ | nx
              · rw [e2] at c2
                simp only [ofV] at c2
                clear h1 ka hfin hnx hWok hzU e2
                refine wk ?_ trueW trueW
                refine DR.pp rfl rfl (Does.eqNilN tt rfl rfl rfl rfl) rfl ?_
                exact wk trueW trueW trueW
              · rw [e2] at c2
                simp only [ofV] at c2
                obtain ⟨hnp, hn64⟩ := hnx _ e2
                have hnp' : 0 < (nx.map uK).length := by rw [List.length_map]; exact hnp
                have hend := hfin nx e2 fun _ => ⟨Nat.lt_of_not_le p2, Nat.le_of_not_lt p3⟩
                clear h1 ka hfin hnx e2
                refine wk ?_ trueW trueW
                refine DR.pp rfl rfl (Does.eqNilS tt rfl rfl rfl rfl hnp') rfl ?_
                refine wk ?_ trueW trueW
                refine LC.loop2 (fun m G => [(0, hsV hs), (1, asV a), (7, .p 7 0), (8, .s (some 36) (G.map St.voteV)), (9, .s (some 60) (U.map updV)), (10, .k (.int .i64 ((i : Nat) : Int))), (11, .p 11 0), (12, sV l), (13, sV nx), (37, hsV hs), (38, .k (.int .i64 ((hs.length : Nat) : Int))), (39, .k (.int .i64 ((i : Nat) : Int))), (84, sV l), (85, .k (.int .i64 ((l.length : Nat) : Int))), (86, .k (.int .i64 ((m : Nat) : Int)))]) (fun m G => [(7, .b [hsV hs, asV a]), (11, .b (hdrC (hs.getD i default))), (36, .r 79 33 G.length), (60, .r 64 206 U.length)]) (fun m G => m ≤ l.length ∧ G = W ++ (l.take m).map (fun s => (s, sm))) ((l.length - ·)) (0) (W) ⟨by omega, by simp⟩ ⟨rfl, rfl, rfl, rfl, rfl, rfl, rfl, rfl, rfl, rfl, rfl, rfl, rfl, rfl, rfl, trivial⟩ ⟨rfl, rfl, rfl, rfl, trivial⟩ rfl rfW rfW ?_
                rintro m G ⟨hm, hG⟩
                have hGl : G.length = W.length + m := by rw [hG, List.length_append, List.length_map, List.length_take]; omega
                by_cases hml : m < l.length
                · have hzW : ∀ e ∈ G.map St.voteV, e.cells.length = 33 := fun e he => by
                    obtain ⟨v, hv', rfl⟩ := List.mem_map.1 he
                    rw [hG] at hv'
                    rcases List.mem_append.1 hv' with hv' | hv'
                    · exact St.voteC_len (hWok _ hv')
                    · obtain ⟨s, hs', rfl⟩ := List.mem_map.1 hv'
                      exact St.voteC_len (v := (s, sm)) ⟨l64 _ (List.mem_of_mem_take hs'), hsm⟩
                  obtain ⟨cs, b1, b2⟩ := St.vote_b (l.getD m default) sm hsm
                  have hgl : (St.voteC (l.getD m default, sm)).length = 33 := St.voteC_len ⟨l64 _ (getD_mem hml), hsm⟩
                  have hok : m + 1 ≤ l.length ∧ G ++ [(l.getD m default, sm)] = W ++ (l.take (m + 1)).map (fun s => (s, sm)) := ⟨hml, by rw [hG, take_get hml, List.map_append, List.append_assoc]; rfl⟩
                  clear hG hWok
                  exact wk trueW trueW trueW
                · obtain rfl : m = l.length := by omega
                  rw [List.take_length] at hG
                  rw [← hG] at hend
                  have t1 : 2 ^ l.length ≤ 2 ^ 16 := Nat.pow_le_pow_right (by omega) hr16.2
                  have t2 : 0 < 2 ^ l.length := Nat.pow_pos (by omega)
                  have hw3 : IntKind.u64.wrap (1 * 2 ^ (min ((l.length : Nat) : Int).toNat IntKind.u64.bits)) = ((2 ^ l.length : Nat) : Int) := by
                    have := shl_u64 (a := 1) (s := l.length) (by omega)
                    rw [Nat.one_mul, Nat.mod_eq_of_lt (by omega)] at this
                    exact this
                  generalize 2 ^ l.length = z at *
                  have hw4 : IntKind.u64.wrap ((z : Int) - ((1 : Nat) : Int)) = ((z - 1 : Nat) : Int) := by rw [wrap_u64 (by omega)]; omega
                  obtain ⟨ds, b3, b4⟩ := upd_b3 k1 (z - 1) nx none
                  have hbr : ∀ u : UpM, (updV u).bare = some (updV u) := fun u => hx_bareU _ _ _
                  obtain ⟨u, hu⟩ : ∃ u : UpM, u = ⟨hs.getD i default, z - 1, nx⟩ := ⟨_, rfl⟩
                  have b5 : V.cv.go (fun _ => false) true ds = updC u := by rw [hu]; exact b4
                  have hlU : (updC u).length = 206 := by rw [hu]; exact hx_len k1 _ _
                  rw [← hu] at hend
                  clear hG hWok b4 hu
                  refine wk ?_ trueW trueW
                  exact LNext2.go (y := i + 1) (z := (G, U ++ [u])) (by repeat (first | exact True.intro | refine And.intro rfl ?_)) (by repeat (first | exact True.intro | refine And.intro rfl ?_)) rfl rfW rfW hend (by omega)
        · rcases e2 : ofM hs a ((hs.getD i default).number + 8) with _ | nx
          · rw [e2] at c2
            simp only [ofV] at c2
            clear h1 ka hfin hnx hWok hzU e2
            refine wk ?_ trueW trueW
            refine DR.pp rfl rfl (Does.eqNilN tt rfl rfl rfl rfl) rfl ?_
            exact wk trueW trueW trueW
          · rw [e2] at c2
            simp only [ofV] at c2
            obtain ⟨hnp, hn64⟩ := hnx _ e2
            have hnp' : 0 < (nx.map uK).length := by rw [List.length_map]; exact hnp
            have hend := hfin nx e2 fun f => absurd f hi0
            clear h1 ka hfin hnx e2
            refine wk ?_ trueW trueW
            refine DR.pp rfl rfl (Does.eqNilS tt rfl rfl rfl rfl hnp') rfl ?_
            refine wk ?_ trueW trueW
            refine LC.loop2 (fun m G => [(0, hsV hs), (1, asV a), (7, .p 7 0), (8, .s (some 36) (G.map St.voteV)), (9, .s (some 60) (U.map updV)), (10, .k (.int .i64 ((i : Nat) : Int))), (11, .p 11 0), (12, sV l), (13, sV nx), (37, hsV hs), (38, .k (.int .i64 ((hs.length : Nat) : Int))), (39, .k (.int .i64 ((i : Nat) : Int))), (84, sV l), (85, .k (.int .i64 ((l.length : Nat) : Int))), (86, .k (.int .i64 ((m : Nat) : Int)))]) (fun m G => [(7, .b [hsV hs, asV a]), (11, .b (hdrC (hs.getD i default))), (36, .r 79 33 G.length), (60, .r 64 206 U.length)]) (fun m G => m ≤ l.length ∧ G = W ++ (l.take m).map (fun s => (s, sm))) ((l.length - ·)) (0) (W) ⟨by omega, by simp⟩ ⟨rfl, rfl, rfl, rfl, rfl, rfl, rfl, rfl, rfl, rfl, rfl, rfl, rfl, rfl, rfl, trivial⟩ ⟨rfl, rfl, rfl, rfl, trivial⟩ rfl rfW rfW ?_
            rintro m G ⟨hm, hG⟩
            have hGl : G.length = W.length + m := by rw [hG, List.length_append, List.length_map, List.length_take]; omega
            by_cases hml : m < l.length
            · have hzW : ∀ e ∈ G.map St.voteV, e.cells.length = 33 := fun e he => by
                obtain ⟨v, hv', rfl⟩ := List.mem_map.1 he
                rw [hG] at hv'
                rcases List.mem_append.1 hv' with hv' | hv'
                · exact St.voteC_len (hWok _ hv')
                · obtain ⟨s, hs', rfl⟩ := List.mem_map.1 hv'
                  exact St.voteC_len (v := (s, sm)) ⟨l64 _ (List.mem_of_mem_take hs'), hsm⟩
              obtain ⟨cs, b1, b2⟩ := St.vote_b (l.getD m default) sm hsm
              have hgl : (St.voteC (l.getD m default, sm)).length = 33 := St.voteC_len ⟨l64 _ (getD_mem hml), hsm⟩
              have hok : m + 1 ≤ l.length ∧ G ++ [(l.getD m default, sm)] = W ++ (l.take (m + 1)).map (fun s => (s, sm)) := ⟨hml, by rw [hG, take_get hml, List.map_append, List.append_assoc]; rfl⟩
              clear hG hWok
              exact wk trueW trueW trueW
            · obtain rfl : m = l.length := by omega
              rw [List.take_length] at hG
              rw [← hG] at hend
              have t1 : 2 ^ l.length ≤ 2 ^ 16 := Nat.pow_le_pow_right (by omega) hr16.2
              have t2 : 0 < 2 ^ l.length := Nat.pow_pos (by omega)
              have hw3 : IntKind.u64.wrap (1 * 2 ^ (min ((l.length : Nat) : Int).toNat IntKind.u64.bits)) = ((2 ^ l.length : Nat) : Int) := by
                have := shl_u64 (a := 1) (s := l.length) (by omega)
                rw [Nat.one_mul, Nat.mod_eq_of_lt (by omega)] at this
                exact this
              generalize 2 ^ l.length = z at *
              have hw4 : IntKind.u64.wrap ((z : Int) - ((1 : Nat) : Int)) = ((z - 1 : Nat) : Int) := by rw [wrap_u64 (by omega)]; omega
              obtain ⟨ds, b3, b4⟩ := upd_b3 k1 (z - 1) nx none
              have hbr : ∀ u : UpM, (updV u).bare = some (updV u) := fun u => hx_bareU _ _ _
              obtain ⟨u, hu⟩ : ∃ u : UpM, u = ⟨hs.getD i default, z - 1, nx⟩ := ⟨_, rfl⟩
              have b5 : V.cv.go (fun _ => false) true ds = updC u := by rw [hu]; exact b4
              have hlU : (updC u).length = 206 := by rw [hu]; exact hx_len k1 _ _
              rw [← hu] at hend
              clear hG hWok b4 hu
              refine wk ?_ trueW trueW
              exact LNext2.go (y := i + 1) (z := (G, U ++ [u])) (by repeat (first | exact True.intro | refine And.intro rfl ?_)) (by repeat (first | exact True.intro | refine And.intro rfl ?_)) rfl rfW rfW hend (by omega)
      · obtain rfl : i = hs.length := by omega
        have hp : 0 < hs.length := List.length_pos_iff.2 h1.some_
        have hplay := live_play h1 (o := o) rfl hp hc
        have hVok := liveV_ok (k := ⟨kh, ka, kn, kan⟩) h1 hv hi
        rw [← hW] at hVok hWl
        rw [← hW, ← hU] at hplay
        have k0 := kh _ (getD_mem hp)
        have l0 := hdrC_len k0
        obtain ⟨t1, t2⟩ := live_told h1 hp
        obtain ⟨m1, m2⟩ := live_next h1 (hc 0 hp).2
        obtain ⟨q, hq1, hq2, hq3⟩ := ofM_some t1
        have hq0 : q = 0 := by
          have : hN hs 0 / 8 = ofB hs := rfl
          omega
        subst hq0
        have hU0 : U.getD 0 default = liveU hs a 0 := by rw [hU]; exact liveUs_getD hs a hp
        have hUn : (U.getD 0 default).next = lvN hs a 0 := by rw [hU0]; rfl
        have hUh : (U.getD 0 default).hdr.ok := by rw [hU0]; exact k0
        have heq : liveS hs a 0 = ⟨hs.getD 0 default, a.getD 0 default, (U.getD 0 default).next⟩ := by rw [hUn, hq3]; rfl
        rw [heq] at hplay
        have a64 := ka _ (getD_mem hq1)
        have n64 := ka _ (ofM_mem m1)
        have kS : StM.ok ⟨hs.getD 0 default, a.getD 0 default, (U.getD 0 default).next⟩ := ⟨k0, a64.1, by rw [hUn]; exact n64.1, a64.2, by rw [hUn]; exact n64.2⟩
        have kU : ∀ u ∈ U, UpM.ok u := fun u hu => by
          rw [hU] at hu
          obtain ⟨j, hj, rfl⟩ := List.mem_map.1 hu
          have hj' := List.mem_range.1 hj
          obtain ⟨r1, r2⟩ := live_next h1 (hc j hj').2
          have r3 := ka _ (ofM_mem r1)
          have r4 := (right_pos (live_told h1 hj').2).2
          have r5 : 2 ^ (lvL hs a j).length ≤ 2 ^ 16 := Nat.pow_le_pow_right (by omega) r4
          exact ⟨kh _ (getD_mem hj'), by show 2 ^ (lvL hs a j).length - 1 < _; omega, r3.1, r3.2⟩
        have cP := Play _ (U.drop 1) W kS (fun u hu => kU _ (List.mem_of_mem_drop hu)) (by rw [List.length_drop]; omega) hVok (by omega)
        rw [hplay] at cP
        have c1 := Begin (hs.getD 0 default) (a.getD 0 default) k0 a64.1 a64.2 (by rw [hq3]; exact t2)
        simp only [storeC, liveS] at cP c1
        have hUp : 0 < U.length := by omega
        have hzU : ∀ e ∈ U.map updV, e.cells.length = 206 := fun e he => by
          obtain ⟨u, hu, rfl⟩ := List.mem_map.1 he
          exact updV_len (kU _ hu)
        have hlU0 : (updV (U.getD 0 default)).cells.length = 206 := hx_len hUh _ _
        have kl := kh _ (getD_mem (show hs.length - 1 < hs.length by omega))
        have ll := hdrC_len kl
        have hk := hdr_kinds kl
        have hx1 := hx_len k0 (sV (a.getD 0 default)) (sV [])
        have hx2 := hx_len k0 (sV (a.getD 0 default)) (sV (U.getD 0 default).next)
        have hx3 := hx_len kl (sV (lvL hs a (hs.length - 1))) (sV (lvN hs a (hs.length - 1)))
        have hle1 : 0 + (hx (hs.getD 0 default) (sV (a.getD 0 default)) (sV [])).length ≤ 206 := by omega
        have hle2 : 205 + 1 ≤ (hx (hs.getD 0 default) (sV (a.getD 0 default)) (sV [])).length := by omega
        have hle3 : 0 + (hx (hs.getD (hs.length - 1) default) (sV (lvL hs a (hs.length - 1))) (sV (lvN hs a (hs.length - 1)))).length ≤ 206 := by omega
        have hee : hdrC (hs.getD (hs.length - 1) default) = hdrC (hs.getD (hs.length - 1) default) := rfl
        have ld3 := @part_hbQ
        have ld4 := @hx_h
        have sp1 := @hx_setP
        have hw : IntKind.i64.wrap ((hs.length : Int) - ((1 : Nat) : Int)) = ((hs.length - 1 : Nat) : Int) := by rw [wrap_i64 (by omega)]; omega
        clear hW hU hc h1 ka kh hplay hVok kS kU m1 m2 t1 t2 hU0 hUn heq n64 hq2 hq3
        generalize lvL hs a (hs.length - 1) = yl at *
        generalize lvN hs a (hs.length - 1) = yn at *
        have hft : V.cv.go (fun _ => false) false [V.a (hx (hs.getD 0 default) (sV (a.getD 0 default)) (sV (U.getD 0 default).next)), V.s none ((U.drop 1).map updV), V.s (some 36) (W.map St.voteV)] = [V.a (hx (hs.getD 0 default) (sV (a.getD 0 default)) (sV (U.getD 0 default).next)), V.s none ((U.drop 1).map updV), V.s none (W.map St.voteV)] := by
          simp only [V.cv.go, V.cv, cv_hx, cond_false]
        have hr3 : V.refs.go [] [V.a (hx (hs.getD 0 default) (sV (a.getD 0 default)) (sV (U.getD 0 default).next)), V.s none ((U.drop 1).map updV), V.s none (W.map St.voteV)] = true := by
          rw [V.refs.go, V.refs, hx_refsS]; rfl
        refine wk ?_ trueW trueW
        refine DR.pp rfl rfl (Does.call cP rfl rfl (Fits.cv (fun _ => false) false hft) hr3) rfl ?_
        refine wk ?_ trueW trueW
        refine LC.loopN (fun j => [(0, hsV hs), (9, .s (some 60) (U.map updV)), (17, .k (.int .i64 0)), (18, .p 18 0), (19, .s none ((List.replicate (hs.length - 1) 0).map eK)), (132, .s none ((List.replicate (hs.length - 1) 0).map eK)), (133, .k (.int .i64 (((List.replicate (hs.length - 1) 0).length : Nat) : Int))), (134, .k (.int .i64 ((j : Nat) : Int)))]) (fun j => [(18, .b (hx (hs.getD (hs.length - 1) default) (sV yl) (sV yn))), (60, .r 64 206 U.length)]) (fun j => j ≤ hs.length - 1) ((hs.length - 1 - ·)) (0) (by omega) ⟨rfl, rfl, rfl, rfl, rfl, rfl, rfl, rfl, trivial⟩ ⟨rfl, rfl, trivial⟩ rfl rfW rfW ?_
        intro j hj
        have hrl : (List.replicate (hs.length - 1) 0).length = hs.length - 1 := List.length_replicate
        clear cP c1 hft hr3
        by_cases h2 : j < hs.length - 1
        · have hok : j + 1 ≤ hs.length - 1 := h2
          have h0 : (List.replicate (hs.length - 1) 0).getD j default = 0 := by rw [List.getD_eq_getElem?_getD, List.getElem?_replicate, if_pos h2]; rfl
          exact wk trueW trueW trueW
        · exact wk trueW trueW trueW
    · clear hz0 hol h1 hv k
      refine LFx.mk' tt Try.func10 rfl rfl rfl (by kernel_rfl) rfl rfl fun F => ?_
      exact wk trueW trueW trueW
  · have c3 := Right hs a k false ⟨fun h => (by cases h), fun f => absurd f h1⟩
    clear hz0 hol h1 hv k
    refine LFx.mk' tt Try.func10 rfl rfl rfl (by kernel_rfl) rfl rfl fun F => ?_
    exact wk trueW trueW trueW
end Sr
end Lf
end Go.Proofs.Ytnmjpbcbldenmaa

/- A part of the proof: texts joined. -/
import Derived.Test.YtgjoecocahpfhaaQ18177537
namespace Go.Proofs.Ytgjoecocahpfhaa
open Go.RowKit Rg Rp
set_option linter.unusedVariables false
set_option maxRecDepth 100000
namespace Lf
namespace Jw
open Jn
theorem step2 {s : S} {o : Jop} (h : o.kind = 2) : jst s o = (s, ⟨0, val s.now o.key⟩) := by unfold jst; rw [if_neg (by omega), if_pos h]
theorem step4n {s : S} {o : Jop} (h : o.kind = 4) (hm : s.marks = []) : jst s o = (s, ⟨31, 0⟩) := by unfold jst; rw [if_neg (by omega), if_neg (by omega), if_neg (by omega), if_pos h, if_pos hm]
theorem step5n {s : S} {o : Jop} (h : o.kind = 5) (hm : s.marks = []) : jst s o = (s, ⟨31, 0⟩) := by unfold jst; rw [if_neg (by omega), if_neg (by omega), if_neg (by omega), if_neg (by omega), if_pos h, if_pos hm]
theorem step_e {s : S} {o : Jop} (h1 : o.kind ≠ 1) (h2 : o.kind ≠ 2) (h3 : o.kind ≠ 3) (h4 : o.kind ≠ 4) (h5 : o.kind ≠ 5) : jst s o = (s, ⟨30, 0⟩) := by unfold jst; rw [if_neg h1, if_neg h2, if_neg h3, if_neg h4, if_neg h5]
def gU (o : Jop) (gu : Nat) : Nat := if o.kind = 1 then gu + 1 else gu
def gM (o : Jop) (gm : Nat) : Nat := if o.kind = 3 then gm + 1 else gm
theorem ans_ren (a : Ans) (ρ : Nat → Nat) : V.ren ρ (ansV a) = ansV a := rfl
set_option maxHeartbeats 8000000 in
theorem do_ (s : S) (o : Jop) (gu gm : Nat) (h : Ok B64 s) (hk : o.key < B64) (hv : o.val < B64) (hl : s.undo.length < 500000000) (hm : s.marks.length < 500000000) : LM Try.prog 42 [.p 1000 0, opV o] (jM s.now s.undo s.marks gu gm) fun q m => q = .ret (ansV (jst s o).2) ∧ m = jM (jst s o).1.now (jst s o).1.undo (jst s o).1.marks (gU o gu) (gM o gm) := by
  have hbl : s.marks ≠ [] → (back s).marks.length = s.marks.length - 1 := fun _ => List.length_dropLast
  by_cases h1 : o.kind = 1
  · have e1 : gU o gu = gu + 1 := if_pos h1
    have e2 : gM o gm = gm := if_neg (by omega)
    rw [step1 h1, e1, e2]
    unfold set1
    by_cases h0 : o.val = 0
    · rw [if_pos h0]
      have c1 := Drop_ s gu gm o.key h hk (by omega)
      refine LM.enter tt Try.func42 rfl rfl rfl (by kernel_rfl) rfl rfl rfl (fun o mo h => by rw [h.2]; rfl) fun F _ => ?_
      exact wk trueW trueW trueW
    · rw [if_neg h0]
      have c1 := Set_ s gu gm o.key o.val h hk (by omega)
      refine LM.enter tt Try.func42 rfl rfl rfl (by kernel_rfl) rfl rfl rfl (fun o mo h => by rw [h.2]; rfl) fun F _ => ?_
      exact wk trueW trueW trueW
  have e1 : gU o gu = gu := if_neg h1
  rw [e1]
  by_cases h2 : o.kind = 2
  · have e2 : gM o gm = gm := if_neg (by omega)
    rw [step2 h2, e2]
    have c1 := Get_ s gu gm o.key h hk
    refine LM.enter tt Try.func42 rfl rfl rfl (by kernel_rfl) rfl rfl rfl (fun o mo h => by rw [h.2]; rfl) fun F _ => ?_
    exact wk trueW trueW trueW
  by_cases h3 : o.kind = 3
  · have e2 : gM o gm = gm + 1 := if_pos h3
    rw [step3 h3, e2]
    have c1 := Mark_ s gu gm (by omega) (by omega)
    unfold Jn.mark
    refine LM.enter tt Try.func42 rfl rfl rfl (by kernel_rfl) rfl rfl rfl (fun o mo h => by rw [h.2]; rfl) fun F _ => ?_
    exact wk trueW trueW trueW
  have e2 : gM o gm = gm := if_neg h3
  rw [e2]
  by_cases h4 : o.kind = 4
  · by_cases h0 : s.marks = []
    · rw [step4n h4 h0]
      have c1 := end_gen (fun ρ => ans_ren _ ρ) 2 (by decide) (end0 s gu gm _ (Back_no s gu gm h0))
      refine LM.enter tt Try.func42 rfl rfl rfl (by kernel_rfl) rfl rfl rfl (fun o mo h => by rw [h.2]; rfl) fun F _ => ?_
      exact wk trueW trueW trueW
    · rw [step4 h4 h0, ← hbl h0]
      have c1 := end_gen (fun ρ => ans_ren _ ρ) 2 (by decide) (end1 s (back s) gu gm _ (by rw [hbl h0]; omega) (Back_ s gu gm h (by omega) (by omega) h0))
      refine LM.enter tt Try.func42 rfl rfl rfl (by kernel_rfl) rfl rfl rfl (fun o mo h => by rw [h.2]; rfl) fun F _ => ?_
      exact wk trueW trueW trueW
  by_cases h5 : o.kind = 5
  · by_cases h0 : s.marks = []
    · rw [step5n h5 h0]
      have c1 := end_gen (fun ρ => ans_ren _ ρ) 2 (by decide) (end0 s gu gm _ (Keep_no s gu gm h0))
      refine LM.enter tt Try.func42 rfl rfl rfl (by kernel_rfl) rfl rfl rfl (fun o mo h => by rw [h.2]; rfl) fun F _ => ?_
      exact wk trueW trueW trueW
    · rw [step5 h5 h0, ← hbl h0]
      have c1 := end_gen (fun ρ => ans_ren _ ρ) 2 (by decide) (end1 s (keep s) gu gm _ (by rw [show (keep s).marks.length = s.marks.length - 1 from hbl h0]; omega) (Keep_ s gu gm (by omega) (List.length_pos_iff.2 h0)))
      refine LM.enter tt Try.func42 rfl rfl rfl (by kernel_rfl) rfl rfl rfl (fun o mo h => by rw [h.2]; rfl) fun F _ => ?_
      exact wk trueW trueW trueW
  rw [step_e h1 h2 h3 h4 h5]
  refine LM.enter tt Try.func42 rfl rfl rfl (by kernel_rfl) rfl rfl rfl (fun o mo h => by rw [h.2]; rfl) fun F _ => ?_
  exact wk trueW trueW trueW
end Jw
end Lf
open Go.RowKit Rg Rp
set_option linter.unusedVariables false
set_option maxRecDepth 100000
namespace Lf
namespace Jw
open Jn
def pot (s : S) : Nat := s.now.length + s.undo.length + s.marks.length
theorem puk_len (k v : Nat) : ∀ l : KV, (puk l k v).length ≤ l.length + 1
  | [] => Nat.le_refl _
  | (a, b) :: r => by
    rw [puk_cons]
    split
    · exact Nat.le_succ _
    · have := puk_len k v r
      simp only [List.length_cons]
      omega
theorem unw1_len (l : KV) (e : En) : (unw1 l e).length ≤ l.length + 1 := by
  unfold unw1
  split
  · exact puk_len _ _ _
  · have := (del_sub e.1 l).length_le
    omega
theorem fold_len : ∀ (es : List En) (l : KV), (es.foldl unw1 l).length ≤ l.length + es.length
  | [], _ => Nat.le_refl _
  | e :: es, l => by
    have := fold_len es (unw1 l e)
    have := unw1_len l e
    simp only [List.foldl_cons, List.length_cons]
    omega
theorem pot_step (s : S) (o : Jop) : pot (jst s o).1 ≤ pot s + 2 := by
  have hb : pot (back s) ≤ pot s := by
    unfold pot back unwL
    have h1 := fold_len (s.undo.drop (s.marks.getLastD 0)).reverse s.now
    simp only [List.length_reverse, List.length_drop, List.length_take, List.length_dropLast] at *
    omega
  have hk : pot (keep s) ≤ pot s := by
    unfold pot keep
    simp only [List.length_dropLast]
    omega
  unfold jst
  split
  · unfold set1 pot note
    have h1 := puk_len o.key o.val s.now
    have h2 := (del_sub o.key s.now).length_le
    simp only [List.length_append, List.length_cons, List.length_nil]
    split <;> omega
  · split
    · exact Nat.le_add_right _ _
    · split
      · show ({ now := s.now, undo := s.undo, marks := s.marks ++ [s.undo.length] } : S).now.length + s.undo.length + (s.marks ++ [s.undo.length]).length ≤ pot s + 2
        unfold pot
        simp only [List.length_append, List.length_cons, List.length_nil]
        omega
      · split
        · split
          · exact Nat.le_add_right _ _
          · exact Nat.le_add_right_of_le hb
        · split
          · split
            · exact Nat.le_add_right _ _
            · exact Nat.le_add_right_of_le hk
          · exact Nat.le_add_right _ _
theorem pot_run : ∀ (ops : List Jop) (s : S), pot (jrun s ops).1 ≤ pot s + 2 * ops.length
  | [], _ => Nat.le_refl _
  | o :: r, s => by
    have h1 := pot_run r (jst s o).1
    have h2 := pot_step s o
    simp only [jrun, List.length_cons]
    omega
theorem run_take {s : S} {ops : List Jop} {i : Nat} (h : i < ops.length) : jrun s (ops.take (i + 1)) = ((jst (jrun s (ops.take i)).1 (ops.getD i default)).1, (jrun s (ops.take i)).2 ++ [(jst (jrun s (ops.take i)).1 (ops.getD i default)).2]) := by
  rw [show ops.take (i + 1) = ops.take i ++ [ops.getD i default] by rw [List.take_add_one, List.getElem?_eq_getElem h, List.getD_eq_getElem?_getD, List.getElem?_eq_getElem h]; rfl, Jn.run_app]
  rfl
abbrev pV (p : Nat × Nat) : V := .a [uK p.1, uK p.2]
set_option maxHeartbeats 4000000 in
theorem New_ : LM Try.prog 41 [] [] fun o m => o = .ret (.p 3 0) ∧ m = [(3, .b [.mp 1, .nil, .nil]), (1, .d [] none)] := by
  have hmd : DelMap 1 := ⟨trivial⟩
  refine LM.enter tt Try.func41 rfl rfl rfl (by kernel_rfl) rfl rfl rfl (fun o mo h => by rw [h.2]; rfl) fun F _ => ?_
  exact wk trueW trueW trueW
theorem New_0 : LM Try.prog 41 [] [] fun o m => o = .ret (.p 1000 0) ∧ m = [(1000, .b [.mp 1001, .nil, .nil]), (1001, .d [] none)] :=
  LM.gen [3, 1] [1000, 1001] (by simp) (by simp) rfl New_ fun ρ hρ => by
    simp at hρ
    obtain ⟨h1, h2⟩ := hρ
    exact ⟨rfl, rfl, by simp [Out.ren, V.ren, h1], by simp [Mem.ren, M.ren, V.ren, h1, h2]⟩
set_option maxHeartbeats 8000000 in
theorem Play_ (ops : List Jop) (hl : ops.length < 10000000) (ho : OpsOk B64 ops) : LF Try.prog 25 [.s none (ops.map opV)] (fun _ => .t [.s none ((jrun S0 ops).2.map ansV), .s none ((fin (jrun S0 ops).1.now).map pV)]) none := by
  have c1 := New_0
  refine LFx.mk' tt Try.func25 rfl rfl rfl (by kernel_rfl) rfl rfl fun F => ?_
  refine wk ?_ trueW trueW
  refine LC.nilrow 5 60 62 2 rfl rfl rfl ?_
  refine LC.nilbuf 1000 1 1002 142 3 rfl rfl rfl (by decide) rfl ?_
  refine LC.nilbuf 1000 2 1003 3 1 rfl rfl rfl (by decide) rfl ?_
  clear c1
  refine LC.loop5 (fun i s gu gm A => [(4, .p 1000 0), (5, .s (some 60) (A.map ansV)), (14, .s none (ops.map opV)), (15, .k (.int .i64 ((ops.length : Nat) : Int))), (16, .k (.int .i64 ((i : Nat) : Int)))]) (fun i s gu gm A => [(1000, .b (jB s.undo.length s.marks.length gu gm)), (1001, .d (nowE s.now) none), (1002, .w 142 3 gu (s.undo.map enV)), (1003, .w 3 1 gm (s.marks.map iK)), (60, .r 62 2 A.length)]) (fun i s gu gm A => i ≤ ops.length ∧ jrun S0 (ops.take i) = (s, A)) ((ops.length - ·)) (0) (S0) (0) (0) ([]) ⟨by omega, rfl⟩ ⟨rfl, rfl, rfl, rfl, rfl, trivial⟩ ⟨rfl, rfl, rfl, rfl, rfl, trivial⟩ rfl rfW rfW ?_
  rintro i s gu gm A ⟨hi, hS⟩
  have hP := pot_run (ops.take i) S0
  have hok0 := Ok.jrun (s := S0) (ops := ops.take i) (B := B64) (fun o h => ho o (List.mem_of_mem_take h)) (ok0 B64)
  have hAl := run_len (ops.take i) S0
  rw [hS] at hP hok0 hAl
  dsimp only at hP hok0 hAl
  rw [List.length_take, Nat.min_eq_left hi] at hP hAl
  have hP0 : pot S0 = 0 := rfl
  have hPs : pot s = s.now.length + s.undo.length + s.marks.length := rfl
  have hsz : ∀ e ∈ A.map ansV, e.cells.length = 2 := fun e he => by obtain ⟨x, _, rfl⟩ := List.mem_map.1 he; rfl
  rcases Nat.lt_or_ge i ops.length with h | h
  · have hom : ops.getD i default ∈ ops := by
      rw [List.getD_eq_getElem?_getD, List.getElem?_eq_getElem h]
      exact List.getElem_mem _
    have hom := ho _ hom
    have c1 := do_ s (ops.getD i default) gu gm hok0 hom.1 hom.2 (by omega) (by omega)
    have hpt := run_take (s := S0) h
    rw [hS] at hpt
    dsimp only at hpt
    generalize gU (ops.getD i default) gu = gu' at *
    generalize gM (ops.getD i default) gm = gm' at *
    generalize jst s (ops.getD i default) = r at *
    obtain ⟨s', a⟩ := r
    dsimp only at c1 hpt
    have hok : i + 1 ≤ ops.length ∧ jrun S0 (ops.take (i + 1)) = (s', A ++ [a]) := ⟨by omega, hpt⟩
    clear hpt hS hP hPs hP0 hok0 hom
    exact wk trueW trueW trueW
  · obtain rfl : i = ops.length := by omega
    rw [List.take_length] at hS
    simp only [hS]
    have c1 := Keys_ s gu gm hok0 (by omega)
    have hRb : ∀ k ∈ srt (keys s.now), k < B64 := fun k hk => by
      obtain ⟨p, hp, rfl⟩ := List.mem_map.1 ((srt_perm _).mem_iff.1 hk)
      exact (hok0.b p hp).1
    have hRl : (srt (keys s.now)).length = (keys s.now).length := (srt_perm _).length_eq
    have hkl : (keys s.now).length = s.now.length := List.length_map _
    rw [show fin s.now = (srt (keys s.now)).map fun k => (k, val s.now k) from rfl]
    generalize srt (keys s.now) = R at *
    generalize (keys s.now).length = n at *
    clear hS
    refine wk ?_ trueW trueW
    refine LC.nilrow 8 61 55 2 rfl rfl rfl ?_
    clear c1
    have hnb : n < 90000000 := by omega
    have hRk : (R.map uK).length = R.length := List.length_map _
    refine LC.loop2 (fun j P => [(4, .p 1000 0), (5, .s (some 60) (A.map ansV)), (8, .s (some 61) (P.map pV)), (28, .w 1090 n 1 0 n), (29, .k (.int .i64 ((n : Nat) : Int))), (30, .k (.int .i64 ((j : Nat) : Int)))]) (fun j P => [(1000, .b (jB s.undo.length s.marks.length gu gm)), (1001, .d (nowE s.now) none), (1002, .w 142 3 gu (s.undo.map enV)), (1003, .w 3 1 gm (s.marks.map iK)), (60, .r 62 2 A.length), (61, .r 55 2 P.length), (1090, .w 24 1 n (R.map uK))]) (fun j P => j ≤ n ∧ P = (R.take j).map fun k => (k, val s.now k)) ((n - ·)) (0) ([]) ⟨by omega, rfl⟩ ⟨rfl, rfl, rfl, rfl, rfl, rfl, trivial⟩ ⟨rfl, rfl, rfl, rfl, rfl, rfl, rfl, trivial⟩ rfl rfW rfW ?_
    rintro j P ⟨hj, hPj⟩
    have hPl : P.length = j := by rw [hPj, List.length_map, List.length_take]; omega
    have hsz2 : ∀ e ∈ P.map pV, e.cells.length = 2 := fun e he => by obtain ⟨x, _, rfl⟩ := List.mem_map.1 he; rfl
    rcases Nat.lt_or_ge j n with h | h
    · have hjR : j < R.length := by omega
      have hmem : R.getD j default ∈ R := by
        rw [List.getD_eq_getElem?_getD, List.getElem?_eq_getElem hjR]
        exact List.getElem_mem _
      have c1 := Get_ s gu gm (R.getD j default) hok0 (hRb _ hmem)
      have hok : j + 1 ≤ n ∧ P ++ [(R.getD j default, val s.now (R.getD j default))] = (R.take (j + 1)).map fun k => (k, val s.now k) := ⟨by omega, by
        rw [hPj, List.take_add_one, List.getElem?_eq_getElem hjR, List.map_append, List.getD_eq_getElem?_getD, List.getElem?_eq_getElem hjR]
        rfl⟩
      generalize val s.now (R.getD j default) = v at *
      generalize had s.now (R.getD j default) = bv at *
      clear hPj hP hPs hP0 hok0 hmem hRb
      have hz : P.map pV ++ [V.a [V.k (.int .u64 ((R.getD j default : Nat) : Int)), V.k (.int .u64 ((v : Nat) : Int))]] = (P ++ [(R.getD j default, v)]).map pV := by rw [List.map_append]; rfl
      exact wk trueW trueW trueW
    · obtain rfl : j = n := by omega
      rw [← hRl, List.take_length] at hPj
      rw [← hPj]
      clear hPj hP hPs hP0 hok0 hRb
      exact wk trueW trueW trueW
end Jw
end Lf
end Go.Proofs.Ytgjoecocahpfhaa

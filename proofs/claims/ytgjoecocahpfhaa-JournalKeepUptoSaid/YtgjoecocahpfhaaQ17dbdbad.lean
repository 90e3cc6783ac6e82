/- A part of the proof: texts joined. -/
import Derived.Test.YtgjoecocahpfhaaQ16529d95
namespace Go.Proofs.Ytgjoecocahpfhaa
open Go.RowKit Rg Rp
set_option linter.unusedVariables false
set_option maxRecDepth 100000
namespace Lf
namespace Jw
open Jn
set_option maxHeartbeats 4000000 in
theorem mapKeys_ (l : KV) : LM Try.prog 72 [.mp 1001] [(1001, .d (nowE l) none)] fun o m => o = .ret (.f (.func 85) [] [.p 1 0]) ∧ m = [(1, .b [.mp 1001]), (1001, .d (nowE l) none)] := by
  refine LM.enter tt Try.func72 rfl rfl rfl (by kernel_rfl) rfl rfl rfl (fun o mo h => by rw [h.2]; rfl) fun F _ => ?_
  exact wk trueW trueW trueW
theorem mapKeys_6 (l : KV) : LM Try.prog 72 [.mp 1001] [(1001, .d (nowE l) none)] fun o m => o = .ret fIt ∧ m = mIt l :=
  LM.gen [1, 1001] [1006, 1001] (by simp) (by simp) rfl (mapKeys_ l) fun ρ hρ => by
    simp at hρ
    obtain ⟨h1, h2⟩ := hρ
    have hk : ∀ e : KV, (nowE e).map (fun p => (p.1, V.ren ρ.f p.2)) = nowE e := fun e => by
      unfold nowE; rw [List.map_map]; rfl
    exact ⟨by simp [V.ren, h2], by simp [Mem.ren, M.ren, V.ren, h2, hk], by simp [Out.ren, V.ren, V.ren.go, h1], by simp [Mem.ren, M.ren, V.ren, h1, h2, hk]⟩
set_option maxHeartbeats 4000000 in
theorem Sorted_ (l : KV) (hn : ND l) (hb : ∀ p ∈ l, p.1 < B64 ∧ p.2 < B64) (hl : l.length < 90000000) : LM Try.prog 71 [fIt] (mIt l) fun o m => o = .ret (.w 1090 (keys l).length 1 0 (keys l).length) ∧ m = [(1006, .b [.mp 1001]), (1001, .d (nowE l) none), (1090, .w 24 1 (keys l).length ((srt (keys l)).map uK))] := by
  have hc := Collect_ l hn hb (by omega)
  refine LM.enter tt Try.func71 rfl rfl rfl (by kernel_rfl) rfl rfl rfl (fun o mo h => by rw [h.2]; rfl) fun F _ => ?_
  refine LC.seq (LC.region (LS.pp rfl rfl (Does.assign rfl rfl) rfl (LS.nil ?_)))
  show LC _ _ _ _ _ _ _
  refine LC.seq (LC.region (LS.pp rfl rfl (Does.move rfl rfl) rfl (LS.stepB rfl (DoesB.call (S := fun ss : List Nat => ss.Perm (keys l)) (v := fun ss => .w 1090 ss.length 1 0 ss.length) (mo := fun ss => mOut l ss) hc rfl rfl (Fits.same _) rfl (fun _ _ => rfl) (fun ss _ => tpre_callT (by repeat (first | exact True.intro | refine And.intro rfl ?_))) (fun i m h => h)) (fun c e => by cases e) rfl rfl fun u mem' h => ?_)))
  obtain ⟨ss, hss, rfl, rfl⟩ := h
  have c1 := Jq.Sort_9 ss (by rw [hss.length_eq]; unfold keys; rw [List.length_map]; omega)
  rw [srt_of_perm hss] at c1
  rw [← hss.length_eq]
  generalize srt (keys l) = R at *
  refine LS.pp rfl rfl (Does.assign rfl rfl) rfl (LS.nil ?_)
  show LC _ _ _ _ _ _ _
  clear hc
  exact wk trueW trueW trueW
set_option maxHeartbeats 4000000 in
theorem Keys_ (s : S) (gu gm : Nat) (h : Ok B64 s) (hl : s.now.length < 90000000) : LM Try.prog 43 [.p 1000 0] (jM s.now s.undo s.marks gu gm) fun o m => o = .ret (.w 1090 (keys s.now).length 1 0 (keys s.now).length) ∧ m = jM s.now s.undo s.marks gu gm ++ [(1090, .w 24 1 (keys s.now).length ((srt (keys s.now)).map uK))] := by
  have c1 := mapKeys_6 s.now
  have c2 := Sorted_ s.now h.nd h.b hl
  generalize srt (keys s.now) = R at *
  generalize (keys s.now).length = n at *
  refine LM.enter tt Try.func43 rfl rfl rfl (by kernel_rfl) rfl rfl rfl (fun o mo h => by rw [h.2]; rfl) fun F _ => ?_
  exact wk trueW trueW trueW
end Jw
end Lf
open Go.RowKit Rg Rp
set_option linter.unusedVariables false
set_option maxRecDepth 100000
namespace Lf
namespace Jw
open Jn
set_option maxHeartbeats 4000000 in
theorem Get_ (s : S) (gu gm k : Nat) (h : Ok B64 s) (hk : k < B64) : LM Try.prog 44 [.p 1000 0, uK k] (jM s.now s.undo s.marks gu gm) fun o m => o = .ret (.t [uK (val s.now k), .k (.bool (had s.now k))]) ∧ m = jM s.now s.undo s.marks gu gm := by
  have hM := mapTyJ
  have hkey := keyU k hk
  have hks := keysN h.b
  have hget := getN h.nd k
  refine LM.enter tt Try.func44 rfl rfl rfl (by kernel_rfl) rfl rfl rfl (fun o mo h => by rw [h.2]; rfl) fun F _ => ?_
  exact wk trueW trueW trueW
set_option maxHeartbeats 4000000 in
theorem Drop_ (s : S) (gu gm k : Nat) (h : Ok B64 s) (hk : k < B64) (hl : s.undo.length < 1000000000) : LM Try.prog 66 [.p 1000 0, uK k] (jM s.now s.undo s.marks gu gm) fun o m => o = .ret (.t []) ∧ m = jM (del s.now k) (note s k) s.marks (gu + 1) gm := by
  have hM := mapTyJ
  have hkey := keyU k hk
  have hks := keysN h.b
  have hdel := del_of (k := k) h.nd
  have c1 := note_ s gu gm k h hk hl
  refine LM.enter tt Try.func66 rfl rfl rfl (by kernel_rfl) rfl rfl rfl (fun o mo h => by rw [h.2]; rfl) fun F _ => ?_
  exact wk trueW trueW trueW
set_option maxHeartbeats 4000000 in
theorem Set_ (s : S) (gu gm k v : Nat) (h : Ok B64 s) (hk : k < B64) (hl : s.undo.length < 1000000000) : LM Try.prog 67 [.p 1000 0, uK k, uK v] (jM s.now s.undo s.marks gu gm) fun o m => o = .ret (.t []) ∧ m = jM (puk s.now k v) (note s k) s.marks (gu + 1) gm := by
  have hM := mapTyJ
  have hkey := keyU k hk
  have hks := keysN h.b
  have c1 := note_ s gu gm k h hk hl
  cases e : lku s.now k with
  | none =>
    obtain ⟨hno, h2⟩ := no_of e
    have hes := h2 v
    refine LM.enter tt Try.func67 rfl rfl rfl (by kernel_rfl) rfl rfl rfl (fun o mo h => by rw [h.2]; rfl) fun F _ => ?_
    exact wk trueW trueW trueW
  | some w =>
    obtain ⟨st, hat, h2⟩ := at_of h.nd e
    have hes := h2 v
    refine LM.enter tt Try.func67 rfl rfl rfl (by kernel_rfl) rfl rfl rfl (fun o mo h => by rw [h.2]; rfl) fun F _ => ?_
    exact wk trueW trueW trueW
set_option maxHeartbeats 4000000 in
theorem Mark_ (s : S) (gu gm : Nat) (hl : s.undo.length < 1000000000) (hm : s.marks.length < 1000000000) : LM Try.prog 68 [.p 1000 0] (jM s.now s.undo s.marks gu gm) fun o m => o = .ret (iK (s.marks.length + 1)) ∧ m = jM s.now s.undo (s.marks ++ [s.undo.length]) gu (gm + 1) := by
  have hml : (s.marks.map iK).length = s.marks.length := List.length_map _
  have hzs := iK_sz s.marks
  have hz : s.marks.map iK ++ [V.k (.int .i64 ((s.undo.length : Nat) : Int))] = (s.marks ++ [s.undo.length]).map iK := by rw [List.map_append]; rfl
  have hnl : s.marks.length + [V.k (.int .i64 ((s.undo.length : Nat) : Int))].length = (s.marks ++ [s.undo.length]).length := by rw [List.length_append]; rfl
  have hnm : (s.marks ++ [s.undo.length]).length = s.marks.length + 1 := by rw [List.length_append]; rfl
  have hub : (s.marks ++ [s.undo.length]).length ≤ 1000000000 := by rw [hnm]; exact hm
  rw [← hnm]
  generalize s.marks ++ [s.undo.length] = m' at *
  refine LM.enter tt Try.func68 rfl rfl rfl (by kernel_rfl) rfl rfl rfl (fun o mo h => by rw [h.2]; rfl) fun F _ => ?_
  exact wk trueW trueW trueW
theorem dropLast_take {α : Type} (l : List α) : l.dropLast = l.take (l.length - 1) := List.dropLast_eq_take
set_option maxHeartbeats 4000000 in
theorem Keep_ (s : S) (gu gm : Nat) (hm : s.marks.length < 1000000000) (h0 : 0 < s.marks.length) : LM Try.prog 70 [.p 1000 0] (jM s.now s.undo s.marks gu gm) fun o m => o = .ret (.k (.bool true)) ∧ m = jM s.now s.undo s.marks.dropLast gu gm := by
  have hml : (s.marks.map iK).length = s.marks.length := List.length_map _
  have hdl : s.marks.dropLast.length = s.marks.length - 1 := List.length_dropLast
  have htk : (s.marks.map iK).take (s.marks.length - 1) = s.marks.dropLast.map iK := by rw [dropLast_take, List.map_take]
  have hsr : ShrAt 1000 2 1003 := ⟨trivial⟩
  unfold jM
  rw [hdl]
  refine LM.enter tt Try.func70 rfl rfl rfl (by kernel_rfl) rfl rfl rfl (fun o mo h => by rw [h.2]; rfl) fun F _ => ?_
  exact wk trueW trueW trueW
set_option maxHeartbeats 4000000 in
theorem Keep_no (s : S) (gu gm : Nat) (hm : s.marks = []) : LM Try.prog 70 [.p 1000 0] (jM s.now s.undo s.marks gu gm) fun o m => o = .ret (.k (.bool false)) ∧ m = jM s.now s.undo s.marks gu gm := by
  have h0 : s.marks.length = 0 := by rw [hm]; rfl
  refine LM.enter tt Try.func70 rfl rfl rfl (by kernel_rfl) rfl rfl rfl (fun o mo h => by rw [h.2]; rfl) fun F _ => ?_
  exact wk trueW trueW trueW
end Jw
end Lf
end Go.Proofs.Ytgjoecocahpfhaa

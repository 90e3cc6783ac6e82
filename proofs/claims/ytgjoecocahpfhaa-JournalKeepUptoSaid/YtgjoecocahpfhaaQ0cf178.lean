/- JournalKeep: the law's function answers true at every input of bulk at most 1048576, and touches no old memory; from its walk to the given statement. Conditions: the statement's own bound, nothing else. -/
import Derived.Test.YtgjoecocahpfhaaQ24618b03
namespace Go.Proofs.Ytgjoecocahpfhaa.lawJournalKeep
open Go.ChangeShapes Go.WideShapes Go.ChangeAt Go.RowKit Rp
set_option linter.unusedVariables false

theorem own : ownKnob Try.prog.godebug = none := by kernel_rfl
theorem laid : laidOutB Try.prog = true := by kernel_rfl
theorem rd_x0 : Try.prog.readableRec 49 = true ∧ 49 < Try.prog.types.size := ⟨by kernel_rfl, of_decide_eq_true (by kernel_rfl)⟩
theorem rds : ∀ t ∈ ([49, 49, 49] : List Nat), Try.prog.readableRec t = true ∧ t < Try.prog.types.size := by
  intro t ht
  rcases List.mem_cons.1 ht with rfl | ht
  · exact rd_x0
  rcases List.mem_cons.1 ht with rfl | ht
  · exact rd_x0
  rcases List.mem_cons.1 ht with rfl | ht
  · exact rd_x0
  cases ht

set_option maxRecDepth 100000 in
theorem contract (H : Type) (enc : TypeId × Value → H) (W : World) (base : Nat) (args : Array Value) (ds gs : List (DataW H)) (before : List MemPlace)
    (hval : ∀ (j : Nat) t v, Try.f11.params[j]? = some t → args[j]? = some v → Value.okWide Try.prog W .any base t v)
    (hW : DataW.Whole enc Try.prog Try.f11.params.toList Rows.journalKeepSpec.vars false W args.toList ds gs before) (hk : Rows.uptoSmall H (ds ++ gs) = true) :
    Calls Try.prog 11 args W fun e W' => ∃ v, e = .returned v ∧ Rows.journalKeepSpec.post enc Try.prog Try.f11 false true false false W args v W' := by
  have hW0 := hW
  obtain ⟨p, q, hA0, hV, rfl, hfz, hnd⟩ := hW
  have hA : DataW.TrodAll enc Try.prog W 0 (fun _ => true) true Try.f11.params.toList args.toList ds p := hA0
  rw [Try.params11] at hA hval
  obtain ⟨v0, vs0, d0, ds0, p0, q0, hargs, rfl, rfl, h0, r0⟩ := trodAll_cons hA
  obtain ⟨v1, vs1, d1, ds1, p1, q1, rfl, rfl, rfl, h1, r1⟩ := trodAll_cons r0
  obtain ⟨v2, vs2, d2, ds2, p2, q2, rfl, rfl, rfl, h2, r2⟩ := trodAll_cons r1
  obtain ⟨rfl, rfl, rfl⟩ := trodAll_nil r2
  obtain rfl : args = #[v0, v1, v2] := by cases args; simp_all
  obtain ⟨rfl, rfl⟩ := trodVars_none hV
  have hbulk : Rows.uptoBulkAll [d0, d1, d2] ≤ 1048576 := by simpa only [List.append_nil] using of_decide_eq_true hk
  simp only [Rows.uptoBulkAll] at hbulk
  obtain ⟨x0, hr0, hk0, hs0⟩ := Lf.Opn.arg1 (fun m => Lf.opnJops m) (by kernel_rfl) (hval 0 49 v0 rfl rfl) h0
  obtain ⟨x1, hr1, hk1, hs1⟩ := Lf.Opn.arg1 (fun m => Lf.opnJops m) (by kernel_rfl) (hval 1 49 v1 rfl rfl) h1
  obtain ⟨x2, hr2, hk2, hs2⟩ := Lf.Opn.arg1 (fun m => Lf.opnJops m) (by kernel_rfl) (hval 2 49 v2 rfl rfl) h2
  refine (Lf.LF.holds (Lf.Jw.JournalKeep x0 x1 x2 (by have := Lf.jones_sum x0; have := Lf.jones_sum x1; have := Lf.jones_sum x2; omega) (Lf.jops_ok hk0) (Lf.jops_ok hk1) (Lf.jops_ok hk2)) W [v0, v1, v2] ⟨hr0, hr1, hr2, trivial⟩).mono fun e W' ⟨he, hx⟩ => ⟨_, he, Fr.post_of_below laid hW0 rfl rfl (by rw [Try.params11]; exact rds) (tb := 4) rfl (by kernel_rfl) hx⟩

set_option maxRecDepth 100000 in
theorem lifted (os : Os) (started : os.Started) (H : Type) (enc : TypeId × Value → H) (F : Stop.Interp) :
    ReturnsInHanded {} Try.checked os 11 .any ((Rows.OpenSpec.upto Rows.journalKeepSpec).pre6 enc Try.prog Try.f11 Rows.journalKeepUptoRow.domain false) (((Rows.OpenSpec.upto Rows.journalKeepSpec).at F).post enc Try.prog Try.f11 false true false false) := by
  refine returnsInHanded_of_cond (C := Try.checked) (s := Rows.OpenSpec.upto Rows.journalKeepSpec) (k := Rows.uptoSmall) rfl own started (by kernel_rfl) Try.func11
    (OpenSpec.witness (enc := enc) (C := Try.checked) (s := Rows.OpenSpec.upto Rows.journalKeepSpec) (k := Rows.uptoSmall) rfl false ⟨#[], #[.slice none 0 0, .slice none 0 0, .slice none 0 0], []⟩ 8 (by kernel_rfl) (by kernel_rfl) (by kernel_rfl)
      (x := ([.nil, .nil, .nil], [], [])) (by kernel_rfl) rfl (by kernel_rfl)) ?_
  intro W base args ds gs before hval hW _ hk _
  exact contract H enc W base args ds gs before hval hW hk

theorem proved : Rows.JournalKeepUptoSaid :=
  OpenClaim.holds_of_cond 11 Try.f11 rfl rfl rfl rfl rfl rfl rfl ⟨rfl, rfl, rfl, rfl, rfl⟩ rfl rfl rfl rfl rfl (by kernel_rfl) Try.func11 (by kernel_rfl)
    (of_decide_eq_true (by kernel_rfl)) (by unfold Func.isWrapper; first | (rw [if_pos (by decide +kernel)]; kernel_rfl) | (rw [if_neg (by decide +kernel)]; exact ⟨rfl, rfl⟩))
    (fun os started H enc _ F => lifted os started H enc F)
end Go.Proofs.Ytgjoecocahpfhaa.lawJournalKeep

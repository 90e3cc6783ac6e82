/- ClientBack: the law's function answers true at every input of bulk at most 1048576, and touches no old memory; from its walk to the given statement. Conditions: the statement's own bound, nothing else. -/
import Derived.Test.YtpaafpmofhajfaaGreatDoorCards
import Derived.Test.YtpaafpmofhajfaaGreatDoorTie
import Derived.WalkKit
import Derived.ProofKit
import Derived.OpenShut
import Derived.Deep.DeepHandedRow
import Derived.Lib.LaidTab
import Derived.Stop.LaidErr
import Derived.Test.YtpaafpmofhajfaaGreatDoorQ303e3cec
namespace Go.Proofs.YtpaafpmofhajfaaGreatDoor.lawClientBack
open Go.ChangeShapes Go.WideShapes Go.ChangeAt Go.RowKit Rp
set_option linter.unusedVariables false
theorem plain (f : FuncId) (fn : Func) (hf : Tryz.pinned.checked.prog.funcNamed "lampbearer/lampbearerkeep.ClientBack" = some f) (hfn : Tryz.pinned.checked.prog.funcs[f]? = some fn) :
    true = Tryz.pinned.checked.prog.looks [] ∧ ∀ (j : Nat) t, fn.params[j]? = some t → Tryz.pinned.checked.prog.wantsStandIn t = false := by
  obtain rfl : f = 4 := Option.some.inj ((show Tryz.prog.funcNamed "lampbearer/lampbearerkeep.ClientBack" = some 4 by kernel_rfl).symm.trans hf) |>.symm
  obtain rfl : fn = Tryz.f4 := (Option.some.inj (Tryz.func4.symm.trans hfn)).symm
  refine ⟨by kernel_rfl, fun j t ht => ?_⟩
  rw [Tryz.params4] at ht
  have hm : t ∈ [43, 27] := by simpa using Array.mem_of_getElem? ht
  have ha : ∀ t ∈ ([43, 27] : List Nat), Tryz.prog.wantsStandIn t = false := by
    intro t ht
    rcases List.mem_cons.1 ht with rfl | ht
    · exact (show Tryz.prog.wantsStandIn 43 = false by kernel_rfl)
    rcases List.mem_cons.1 ht with rfl | ht
    · exact (show Tryz.prog.wantsStandIn 27 = false by kernel_rfl)
    cases ht
  exact ha t hm
/-- The card. -/
theorem proved : Rows.ClientBackUptoCardSaid :=
  Claim7.holds_tied_plain_at .later [] _ _ _ _ said (fun _ h => by cases h) (by kernel_rfl) (fun _ h => by cases h) clientBackUpto_row_tie rfl ⟨rfl, rfl⟩ (by kernel_rfl) rfl plain (by kernel_rfl)
end Go.Proofs.YtpaafpmofhajfaaGreatDoor.lawClientBack

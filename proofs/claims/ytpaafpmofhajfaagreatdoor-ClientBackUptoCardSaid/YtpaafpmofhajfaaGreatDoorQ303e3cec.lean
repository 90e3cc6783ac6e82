/- A part of the proof: texts joined. -/
import Derived.Test.YtpaafpmofhajfaaGreatDoorCards
import Derived.Test.YtpaafpmofhajfaaGreatDoorTie
import Derived.WalkKit
import Derived.ProofKit
import Derived.OpenShut
import Derived.Deep.DeepHandedRow
import Derived.Lib.LaidTab
import Derived.Stop.LaidErr
import Derived.Test.YtpaafpmofhajfaaGreatDoorQ25d1c9fe
import Derived.Test.YtpaafpmofhajfaaGreatDoorQ26ff61b3
import Derived.Test.YtpaafpmofhajfaaGreatDoorQ27b566a9
import Derived.Test.YtpaafpmofhajfaaGreatDoorQ2805b2f6
import Derived.Test.YtpaafpmofhajfaaGreatDoorQ291ab910
set_option linter.unusedVariables false
set_option linter.unusedSimpArgs false
namespace Go.Proofs.YtpaafpmofhajfaaGreatDoor.lawClientBack
open Go.ChangeShapes Go.WideShapes Go.ChangeAt Go.RowKit Rp
set_option linter.unusedVariables false
theorem closed : joinedFacts Tryz.pinned.checked.prog 4 Tryz.f4 (Rows.OpenSpec.upto Rows.clientBackSpec).bare Rows.clientBackUptoRow = true := by
 unfold joinedFacts
 rw [k_inPlace, k_unfollowed, k_recurses, k_named]
 kernel_rfl
theorem said : Rows.ClientBackUptoSaid :=
 OpenClaim.holds_of_cond 4 Tryz.f4 rfl rfl rfl rfl rfl rfl rfl ⟨rfl, rfl, rfl, rfl, rfl⟩ rfl rfl rfl rfl rfl (by kernel_rfl) Tryz.func4 closed
  (of_decide_eq_true (by kernel_rfl)) (by unfold Func.isWrapper; first | (rw [if_pos (by decide +kernel)]; kernel_rfl) | (rw [if_neg (by decide +kernel)]; exact ⟨rfl, rfl⟩))
  (fun os started H enc _ F => by rw [OpenClaim.pre_eq_preRow]; exact lifted os started H enc F)
end Go.Proofs.YtpaafpmofhajfaaGreatDoor.lawClientBack

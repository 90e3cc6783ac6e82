/- A part of the proof: texts joined. -/
import Derived.Test.YtpaafpmofhajfaaGreatDoorCards
import Derived.Test.YtpaafpmofhajfaaGreatDoorTie
import Derived.WalkKit
import Derived.ProofKit
import Derived.OpenShut
import Derived.Deep.DeepHandedRow
import Derived.Lib.LaidTab
import Derived.Stop.LaidErr
import Derived.Test.YtpaafpmofhajfaaGreatDoorQ24a4b759
set_option linter.unusedVariables false
set_option linter.unusedSimpArgs false
namespace Go.Proofs.YtpaafpmofhajfaaGreatDoor.lawClientBack
open Go.ChangeShapes Go.WideShapes Go.ChangeAt Go.RowKit Rp
set_option linter.unusedVariables false
theorem k_inPlace : (Rows.clientBackUptoRow.inPlace == Tryz.pinned.checked.prog.inPlace 4) = true := by kernel_rfl
end Go.Proofs.YtpaafpmofhajfaaGreatDoor.lawClientBack

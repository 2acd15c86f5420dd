/- What is asked of the card. -/
import Derived.Test.YtfningkbcfhheaaGreatDoorCards
import Derived.WalkKit
import Derived.ProofKit
import Derived.OpenShut
import Derived.Deep.DeepHandedRow
import Derived.Lib.LaidTab
import Derived.Lay
import Derived.Deep.DeepWitnessRowRef
set_option linter.unusedVariables false
set_option linter.unusedSimpArgs false
namespace Go.Proofs.YtfningkbcfhheaaGreatDoor
open Go Go.ChangeShapes Go.WideShapes Go.ChangeAt Go.RowKit Go.ChangeMaps
set_option linter.unusedVariables false
set_option maxRecDepth 100000
namespace WholeLimit
theorem looks_is : true = Tryz.prog.looks [] := by kernel_rfl
theorem wfT : Rows.wholeLimitUptoRow.wfByText (Rows.OpenSpec.upto Rows.wholeLimitSpec) = true := by kernel_rfl
theorem mainT : Tryz.pinned.checked.prog.mainIs = some ((true, "c71447810d31f4f91b0a1bc35e6247ba0f67f19be2241624f5a83bd9a31dc9d4").1, (true, "c71447810d31f4f91b0a1bc35e6247ba0f67f19be2241624f5a83bd9a31dc9d4").2.toList) := by kernel_rfl
end WholeLimit
end Go.Proofs.YtfningkbcfhheaaGreatDoor

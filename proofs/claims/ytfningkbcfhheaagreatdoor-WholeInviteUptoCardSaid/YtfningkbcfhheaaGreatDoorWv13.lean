/- Some of these calls, run. -/
import Derived.Test.YtfningkbcfhheaaGreatDoorPart15
import Derived.Test.YtfningkbcfhheaaGreatDoorPart11
set_option linter.unusedVariables false
set_option linter.unusedSimpArgs false
namespace Go.Proofs.YtfningkbcfhheaaGreatDoor.X
open Go.Proofs.YtfningkbcfhheaaGreatDoor.HL
set_option linter.unusedVariables false
noncomputable section
theorem g13 : segsB Tryz.prog Kr [(10, s60), (10, s61), (15, s62), (16, s63)] = some () := by kernel_rfl
end
end Go.Proofs.YtfningkbcfhheaaGreatDoor.X

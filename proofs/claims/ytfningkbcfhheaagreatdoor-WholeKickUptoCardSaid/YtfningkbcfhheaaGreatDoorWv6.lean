/- Some of these calls, run. -/
import Derived.Test.YtfningkbcfhheaaGreatDoorPart15
import Derived.Test.YtfningkbcfhheaaGreatDoorPart11
set_option linter.unusedVariables false
set_option linter.unusedSimpArgs false
namespace Go.Proofs.YtfningkbcfhheaaGreatDoor.X
open Go.Proofs.YtfningkbcfhheaaGreatDoor.HL
set_option linter.unusedVariables false
noncomputable section
def l6 : List (FuncId × Seg) := [(10, s9), (10, s10), (17, s11), (17, s12), (17, s13), (17, s14), (17, s15)]
theorem g6 : segsB Tryz.prog Kr l6 = some () := by kernel_rfl
end
end Go.Proofs.YtfningkbcfhheaaGreatDoor.X

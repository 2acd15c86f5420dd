/- Some of these calls, run. -/
import Derived.Test.YtfningkbcfhheaaGreatDoorPart15
import Derived.Test.YtfningkbcfhheaaGreatDoorWvO
set_option linter.unusedVariables false
set_option linter.unusedSimpArgs false
namespace Go.Proofs.YtfningkbcfhheaaGreatDoor.X
open Go.Proofs.YtfningkbcfhheaaGreatDoor.HL
set_option linter.unusedVariables false
noncomputable section
def l5 : List (FuncId × Seg) := [(25, s6)]
theorem g5 : segsB Tryz.prog Kr l5 = some () := by kernel_rfl
def l6 : List (FuncId × Seg) := [(25, s7)]
theorem g6 : segsB Tryz.prog Kr l6 = some () := by kernel_rfl
end
end Go.Proofs.YtfningkbcfhheaaGreatDoor.X

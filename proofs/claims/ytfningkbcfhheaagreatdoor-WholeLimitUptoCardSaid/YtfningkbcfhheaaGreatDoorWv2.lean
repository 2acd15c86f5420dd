/- Some of these calls, run. -/
import Derived.Test.YtfningkbcfhheaaGreatDoorPart15
import Derived.Test.YtfningkbcfhheaaGreatDoorWvO
set_option linter.unusedVariables false
set_option linter.unusedSimpArgs false
namespace Go.Proofs.YtfningkbcfhheaaGreatDoor.X
open Go.Proofs.YtfningkbcfhheaaGreatDoor.HL
set_option linter.unusedVariables false
noncomputable section
def l3 : List (FuncId × Seg) := [(25, s4)]
theorem g3 : segsB Tryz.prog Kr l3 = some () := by kernel_rfl
def l4 : List (FuncId × Seg) := [(25, s5)]
theorem g4 : segsB Tryz.prog Kr l4 = some () := by kernel_rfl
end
end Go.Proofs.YtfningkbcfhheaaGreatDoor.X

/- Some of these calls, run. -/
import Derived.Test.YtfningkbcfhheaaGreatDoorPart15
import Derived.Test.YtfningkbcfhheaaGreatDoorWvO
set_option linter.unusedVariables false
set_option linter.unusedSimpArgs false
namespace Go.Proofs.YtfningkbcfhheaaGreatDoor.X
open Go.Proofs.YtfningkbcfhheaaGreatDoor.HL
set_option linter.unusedVariables false
noncomputable section
def l17 : List (FuncId × Seg) := [(10, s65), (10, s66)]
theorem g17 : segsB Tryz.prog Kr l17 = some () := by kernel_rfl
def l18 : List (FuncId × Seg) := [(10, s67), (10, s68), (10, s69), (13, s70), (14, s71), (16, s72)]
theorem g18 : segsB Tryz.prog Kr l18 = some () := by kernel_rfl
end
end Go.Proofs.YtfningkbcfhheaaGreatDoor.X

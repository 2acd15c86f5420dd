/- Some of these calls, run. -/
import Derived.Test.YtfningkbcfhheaaGreatDoorPart15
import Derived.Test.YtfningkbcfhheaaGreatDoorWvO
set_option linter.unusedVariables false
set_option linter.unusedSimpArgs false
namespace Go.Proofs.YtfningkbcfhheaaGreatDoor.X
open Go.Proofs.YtfningkbcfhheaaGreatDoor.HL
set_option linter.unusedVariables false
noncomputable section
def l15 : List (FuncId × Seg) := [(10, s53), (10, s54), (10, s55), (13, s56), (14, s57), (16, s58)]
theorem g15 : segsB Tryz.prog Kr l15 = some () := by kernel_rfl
def l16 : List (FuncId × Seg) := [(10, s59), (10, s60), (15, s61), (16, s62), (18, s63), (10, s64)]
theorem g16 : segsB Tryz.prog Kr l16 = some () := by kernel_rfl
end
end Go.Proofs.YtfningkbcfhheaaGreatDoor.X

/- Some of these calls, run. -/
import Derived.Test.YtfningkbcfhheaaGreatDoorPart15
import Derived.Test.YtfningkbcfhheaaGreatDoorWvO
set_option linter.unusedVariables false
set_option linter.unusedSimpArgs false
namespace Go.Proofs.YtfningkbcfhheaaGreatDoor.X
open Go.Proofs.YtfningkbcfhheaaGreatDoor.HL
set_option linter.unusedVariables false
noncomputable section
def l7 : List (FuncId × Seg) := [(25, s8), (10, s10), (18, s11)]
theorem g7 : segsB Tryz.prog Kr l7 = some () := by kernel_rfl
def l8 : List (FuncId × Seg) := [(10, s12), (10, s13), (10, s14), (10, s15), (10, s16)]
theorem g8 : segsB Tryz.prog Kr l8 = some () := by kernel_rfl
end
end Go.Proofs.YtfningkbcfhheaaGreatDoor.X

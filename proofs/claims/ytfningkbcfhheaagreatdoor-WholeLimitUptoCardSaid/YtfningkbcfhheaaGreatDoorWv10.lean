/- Some of these calls, run. -/
import Derived.Test.YtfningkbcfhheaaGreatDoorPart15
import Derived.Test.YtfningkbcfhheaaGreatDoorWvO
set_option linter.unusedVariables false
set_option linter.unusedSimpArgs false
namespace Go.Proofs.YtfningkbcfhheaaGreatDoor.X
open Go.Proofs.YtfningkbcfhheaaGreatDoor.HL
set_option linter.unusedVariables false
noncomputable section
def l19 : List (FuncId × Seg) := [(10, s73), (10, s74), (15, s75), (16, s76), (18, s77), (10, s78)]
theorem g19 : segsB Tryz.prog Kr l19 = some () := by kernel_rfl
def l20 : List (FuncId × Seg) := [(10, s79), (10, s80)]
theorem g20 : segsB Tryz.prog Kr l20 = some () := by kernel_rfl
end
end Go.Proofs.YtfningkbcfhheaaGreatDoor.X

/- Some of these calls, run. -/
import Derived.Test.YtfningkbcfhheaaGreatDoorPart15
import Derived.Test.YtfningkbcfhheaaGreatDoorWvO
set_option linter.unusedVariables false
set_option linter.unusedSimpArgs false
namespace Go.Proofs.YtfningkbcfhheaaGreatDoor.X
open Go.Proofs.YtfningkbcfhheaaGreatDoor.HL
set_option linter.unusedVariables false
noncomputable section
def l9 : List (FuncId × Seg) := [(10, s17), (13, s18), (14, s19), (16, s20), (18, s21), (10, s22), (10, s23), (10, s24)]
theorem g9 : segsB Tryz.prog Kr l9 = some () := by kernel_rfl
def l10 : List (FuncId × Seg) := [(10, s25), (10, s26), (10, s27), (13, s28), (14, s29), (16, s30), (10, s31)]
theorem g10 : segsB Tryz.prog Kr l10 = some () := by kernel_rfl
end
end Go.Proofs.YtfningkbcfhheaaGreatDoor.X

/- Some of these calls, run. -/
import Derived.Test.YtfningkbcfhheaaGreatDoorPart15
import Derived.Test.YtfningkbcfhheaaGreatDoorPart11
set_option linter.unusedVariables false
set_option linter.unusedSimpArgs false
namespace Go.Proofs.YtfningkbcfhheaaGreatDoor.X
open Go.Proofs.YtfningkbcfhheaaGreatDoor.HL
set_option linter.unusedVariables false
noncomputable section
def l7 : List (FuncId × Seg) := [(10, s16), (13, s17), (14, s18), (15, s19), (11, s20), (11, s21), (11, s22), (11, s23), (11, s24), (10, s25), (13, s26), (14, s27), (15, s28), (11, s29), (11, s30), (11, s31), (11, s32), (11, s33)]
theorem g7 : segsB Tryz.prog Kr l7 = some () := by kernel_rfl
end
end Go.Proofs.YtfningkbcfhheaaGreatDoor.X

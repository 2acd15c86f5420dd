/- Some of these calls, run. -/
import Derived.Test.YtfningkbcfhheaaGreatDoorPart15
import Derived.Test.YtfningkbcfhheaaGreatDoorWvO
set_option linter.unusedVariables false
set_option linter.unusedSimpArgs false
namespace Go.Proofs.YtfningkbcfhheaaGreatDoor.X
open Go.Proofs.YtfningkbcfhheaaGreatDoor.HL
set_option linter.unusedVariables false
noncomputable section
def l27 : List (FuncId × Seg) := [(10, s103), (13, s104), (14, s105), (16, s106), (18, s107), (10, s108), (10, s109)]
theorem g27 : segsB Tryz.prog Kr l27 = some () := by kernel_rfl
def l28 : List (FuncId × Seg) := [(10, s110), (10, s111)]
theorem g28 : segsB Tryz.prog Kr l28 = some () := by kernel_rfl
end
end Go.Proofs.YtfningkbcfhheaaGreatDoor.X

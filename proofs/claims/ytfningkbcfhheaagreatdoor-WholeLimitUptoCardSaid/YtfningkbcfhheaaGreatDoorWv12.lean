/- Some of these calls, run. -/
import Derived.Test.YtfningkbcfhheaaGreatDoorPart15
import Derived.Test.YtfningkbcfhheaaGreatDoorWvO
set_option linter.unusedVariables false
set_option linter.unusedSimpArgs false
namespace Go.Proofs.YtfningkbcfhheaaGreatDoor.X
open Go.Proofs.YtfningkbcfhheaaGreatDoor.HL
set_option linter.unusedVariables false
noncomputable section
def l23 : List (FuncId × Seg) := [(10, s90), (10, s91)]
theorem g23 : segsB Tryz.prog Kr l23 = some () := by kernel_rfl
def l24 : List (FuncId × Seg) := [(10, s92), (10, s93), (13, s94), (14, s95), (16, s96), (18, s97)]
theorem g24 : segsB Tryz.prog Kr l24 = some () := by kernel_rfl
end
end Go.Proofs.YtfningkbcfhheaaGreatDoor.X

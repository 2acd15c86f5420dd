/- Some of these calls, run. -/
import Derived.Test.YtfningkbcfhheaaGreatDoorPart15
import Derived.Test.YtfningkbcfhheaaGreatDoorWvO
set_option linter.unusedVariables false
set_option linter.unusedSimpArgs false
namespace Go.Proofs.YtfningkbcfhheaaGreatDoor.X
open Go.Proofs.YtfningkbcfhheaaGreatDoor.HL
set_option linter.unusedVariables false
noncomputable section
def l11 : List (FuncId × Seg) := [(10, s32), (15, s33), (16, s34), (18, s35), (10, s36), (10, s37)]
theorem g11 : segsB Tryz.prog Kr l11 = some () := by kernel_rfl
def l12 : List (FuncId × Seg) := [(10, s38), (10, s39), (10, s40), (10, s41), (13, s42), (14, s43), (16, s44)]
theorem g12 : segsB Tryz.prog Kr l12 = some () := by kernel_rfl
end
end Go.Proofs.YtfningkbcfhheaaGreatDoor.X

/- Some of these calls, run. -/
import Derived.Test.YtfningkbcfhheaaGreatDoorPart15
import Derived.Test.YtfningkbcfhheaaGreatDoorWvO
set_option linter.unusedVariables false
set_option linter.unusedSimpArgs false
namespace Go.Proofs.YtfningkbcfhheaaGreatDoor.X
open Go.Proofs.YtfningkbcfhheaaGreatDoor.HL
set_option linter.unusedVariables false
noncomputable section
def l1 : List (FuncId × Seg) := [(8, s0), (22, s1), (25, s2)]
theorem g1 : segsB Tryz.prog Kr l1 = some () := by kernel_rfl
def l2 : List (FuncId × Seg) := [(25, s3)]
theorem g2 : segsB Tryz.prog Kr l2 = some () := by kernel_rfl
end
end Go.Proofs.YtfningkbcfhheaaGreatDoor.X

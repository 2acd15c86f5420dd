/- Some of these calls, run. -/
import Derived.Test.YtfningkbcfhheaaGreatDoorPart15
import Derived.Test.YtfningkbcfhheaaGreatDoorWvO
set_option linter.unusedVariables false
set_option linter.unusedSimpArgs false
namespace Go.Proofs.YtfningkbcfhheaaGreatDoor.X
open Go.Proofs.YtfningkbcfhheaaGreatDoor.HL
set_option linter.unusedVariables false
noncomputable section
def l13 : List (FuncId × Seg) := [(10, s45), (10, s46), (15, s47), (16, s48), (18, s49), (10, s50)]
theorem g13 : segsB Tryz.prog Kr l13 = some () := by kernel_rfl
def l14 : List (FuncId × Seg) := [(10, s51), (10, s52)]
theorem g14 : segsB Tryz.prog Kr l14 = some () := by kernel_rfl
end
end Go.Proofs.YtfningkbcfhheaaGreatDoor.X

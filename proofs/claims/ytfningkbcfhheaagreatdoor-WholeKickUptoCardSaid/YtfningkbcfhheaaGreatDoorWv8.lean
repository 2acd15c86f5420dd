/- Some of these calls, run. -/
import Derived.Test.YtfningkbcfhheaaGreatDoorPart15
import Derived.Test.YtfningkbcfhheaaGreatDoorPart11
set_option linter.unusedVariables false
set_option linter.unusedSimpArgs false
namespace Go.Proofs.YtfningkbcfhheaaGreatDoor.X
open Go.Proofs.YtfningkbcfhheaaGreatDoor.HL
set_option linter.unusedVariables false
noncomputable section
def l8 : List (FuncId × Seg) := [(10, s34), (13, s35), (14, s36), (15, s37), (11, s38), (11, s39), (11, s40), (11, s41), (11, s42), (10, s43), (13, s44), (14, s45), (15, s46), (11, s47), (11, s48), (11, s49), (11, s50), (11, s51), (10, s52), (13, s53)]
theorem g8 : segsB Tryz.prog Kr l8 = some () := by kernel_rfl
end
end Go.Proofs.YtfningkbcfhheaaGreatDoor.X

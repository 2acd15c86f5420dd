/- Some of these calls, run. -/
import Derived.Test.YtfningkbcfhheaaGreatDoorPart15
import Derived.Test.YtfningkbcfhheaaGreatDoorWvO
set_option linter.unusedVariables false
set_option linter.unusedSimpArgs false
namespace Go.Proofs.YtfningkbcfhheaaGreatDoor.X
open Go.Proofs.YtfningkbcfhheaaGreatDoor.HL
set_option linter.unusedVariables false
noncomputable section
def l25 : List (FuncId × Seg) := [(10, s98), (10, s99), (10, s100)]
theorem g25 : segsB Tryz.prog Kr l25 = some () := by kernel_rfl
def l26 : List (FuncId × Seg) := [(10, s101), (10, s102)]
theorem g26 : segsB Tryz.prog Kr l26 = some () := by kernel_rfl
end
end Go.Proofs.YtfningkbcfhheaaGreatDoor.X

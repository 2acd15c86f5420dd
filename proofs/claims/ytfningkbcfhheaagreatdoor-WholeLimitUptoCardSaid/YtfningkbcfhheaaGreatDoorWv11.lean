/- Some of these calls, run. -/
import Derived.Test.YtfningkbcfhheaaGreatDoorPart15
import Derived.Test.YtfningkbcfhheaaGreatDoorWvO
set_option linter.unusedVariables false
set_option linter.unusedSimpArgs false
namespace Go.Proofs.YtfningkbcfhheaaGreatDoor.X
open Go.Proofs.YtfningkbcfhheaaGreatDoor.HL
set_option linter.unusedVariables false
noncomputable section
def l21 : List (FuncId × Seg) := [(10, s81), (10, s82)]
theorem g21 : segsB Tryz.prog Kr l21 = some () := by kernel_rfl
def l22 : List (FuncId × Seg) := [(10, s83), (13, s84), (14, s85), (16, s86), (18, s87), (10, s88), (10, s89)]
theorem g22 : segsB Tryz.prog Kr l22 = some () := by kernel_rfl
end
end Go.Proofs.YtfningkbcfhheaaGreatDoor.X

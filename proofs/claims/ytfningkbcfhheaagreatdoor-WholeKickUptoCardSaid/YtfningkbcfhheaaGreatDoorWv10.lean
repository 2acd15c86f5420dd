/- Some of these calls, run. -/
import Derived.Test.YtfningkbcfhheaaGreatDoorPart15
import Derived.Test.YtfningkbcfhheaaGreatDoorPart11
set_option linter.unusedVariables false
set_option linter.unusedSimpArgs false
namespace Go.Proofs.YtfningkbcfhheaaGreatDoor.X
open Go.Proofs.YtfningkbcfhheaaGreatDoor.HL
set_option linter.unusedVariables false
noncomputable section
def l10 : List (FuncId × Seg) := [(11, s86), (11, s87), (10, s88), (13, s89), (14, s90), (15, s91), (11, s92), (11, s93), (11, s94), (11, s95), (11, s96)]
theorem g10 : segsB Tryz.prog Kr l10 = some () := by kernel_rfl
end
end Go.Proofs.YtfningkbcfhheaaGreatDoor.X

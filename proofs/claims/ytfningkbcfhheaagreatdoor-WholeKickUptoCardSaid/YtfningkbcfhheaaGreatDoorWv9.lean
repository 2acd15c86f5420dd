/- Some of these calls, run. -/
import Derived.Test.YtfningkbcfhheaaGreatDoorPart15
import Derived.Test.YtfningkbcfhheaaGreatDoorPart11
set_option linter.unusedVariables false
set_option linter.unusedSimpArgs false
namespace Go.Proofs.YtfningkbcfhheaaGreatDoor.X
open Go.Proofs.YtfningkbcfhheaaGreatDoor.HL
set_option linter.unusedVariables false
noncomputable section
def l9 : List (FuncId × Seg) := [(14, s54), (15, s55), (11, s56), (11, s57), (11, s58), (11, s59), (11, s60), (10, s61), (13, s62), (14, s63), (15, s64), (11, s65), (11, s66), (11, s67), (11, s68), (11, s69), (10, s70), (13, s71), (14, s72), (15, s73), (11, s74), (11, s75), (11, s76), (11, s77), (11, s78), (10, s79), (13, s80), (14, s81), (15, s82), (11, s83), (11, s84), (11, s85)]
theorem g9 : segsB Tryz.prog Kr l9 = some () := by kernel_rfl
end
end Go.Proofs.YtfningkbcfhheaaGreatDoor.X

/- That world, the variables. -/
import Derived.Test.YtfningkbcfhheaaGreatDoorTwC
set_option linter.unusedVariables false
set_option linter.unusedSimpArgs false
namespace Go.Proofs.YtfningkbcfhheaaGreatDoor
open Go Go.ChangeShapes Go.WideShapes Go.ChangeAt Go.RowKit Go.ChangeMaps
set_option linter.unusedVariables false
set_option maxRecDepth 100000
namespace WholeLimit
theorem wf1 (os : Os) : (wW os).variablesRefB Tryz.prog = true := by kernel_rfl
end WholeLimit
end Go.Proofs.YtfningkbcfhheaaGreatDoor

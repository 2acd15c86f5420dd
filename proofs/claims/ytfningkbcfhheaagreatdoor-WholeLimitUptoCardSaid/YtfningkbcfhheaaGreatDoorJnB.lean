/- Facts of the row. -/
import Derived.Test.YtfningkbcfhheaaGreatDoorRows
import Derived.JoinedOf
import Derived.KernelRfl
set_option linter.unusedVariables false
set_option linter.unusedSimpArgs false
namespace Go.Proofs.YtfningkbcfhheaaGreatDoor
open Go
set_option maxRecDepth 100000
namespace WholeLimit
theorem j1 : (laidOutB Tryz.pinned.checked.prog) = true := by kernel_rfl
end WholeLimit
end Go.Proofs.YtfningkbcfhheaaGreatDoor

/- Facts of the row. -/
import Derived.Test.YtfningkbcfhheaaGreatDoorRows
import Derived.JoinedOf
import Derived.KernelRfl
set_option linter.unusedVariables false
set_option linter.unusedSimpArgs false
namespace Go.Proofs.YtfningkbcfhheaaGreatDoor
open Go
set_option maxRecDepth 100000
namespace WholeKick
theorem j12 : ((Rows.wholeKickUptoRow.named == Tryz.pinned.checked.prog.varsNamed 5)) = true := by kernel_rfl
end WholeKick
end Go.Proofs.YtfningkbcfhheaaGreatDoor

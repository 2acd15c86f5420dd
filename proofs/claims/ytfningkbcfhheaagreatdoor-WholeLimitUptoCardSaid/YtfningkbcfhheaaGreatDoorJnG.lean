/- Facts of the row. -/
import Derived.Test.YtfningkbcfhheaaGreatDoorRows
import Derived.JoinedOf
import Derived.KernelRfl
set_option linter.unusedVariables false
set_option linter.unusedSimpArgs false
namespace Go.Proofs.YtfningkbcfhheaaGreatDoor
open Go
set_option maxRecDepth 100000
namespace WholeLimit
theorem j10 : ((Rows.wholeLimitUptoRow.unfollowed == Tryz.pinned.checked.prog.unfollowed 6)) = true := by kernel_rfl
end WholeLimit
end Go.Proofs.YtfningkbcfhheaaGreatDoor

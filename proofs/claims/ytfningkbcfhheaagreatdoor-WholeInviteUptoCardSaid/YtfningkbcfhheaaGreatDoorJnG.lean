/- Facts of the row. -/
import Derived.Test.YtfningkbcfhheaaGreatDoorRows
import Derived.JoinedOf
import Derived.KernelRfl
set_option linter.unusedVariables false
set_option linter.unusedSimpArgs false
namespace Go.Proofs.YtfningkbcfhheaaGreatDoor
open Go
set_option maxRecDepth 100000
namespace WholeInvite
theorem j10 : ((Rows.wholeInviteUptoRow.unfollowed == Tryz.pinned.checked.prog.unfollowed 4)) = true := by kernel_rfl
end WholeInvite
end Go.Proofs.YtfningkbcfhheaaGreatDoor

/- What the tie of this program asks, one more fact. -/
import Derived.Test.YtfningkbcfhheaaGreatDoorTiA
set_option linter.unusedVariables false
set_option linter.unusedSimpArgs false
namespace Go.Proofs.YtfningkbcfhheaaGreatDoor
open Go
theorem hn : varsNamedLaterB Tryz.prog (varsId Tryz.prog) LL = true := by kernel_rfl
end Go.Proofs.YtfningkbcfhheaaGreatDoor

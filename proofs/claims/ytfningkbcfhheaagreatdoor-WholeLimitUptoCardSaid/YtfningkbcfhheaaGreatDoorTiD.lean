/- What the tie of this program asks, one more fact. -/
import Derived.Test.YtfningkbcfhheaaGreatDoorTiA
set_option linter.unusedVariables false
set_option linter.unusedSimpArgs false
namespace Go.Proofs.YtfningkbcfhheaaGreatDoor
open Go
theorem h1 : ∀ os tape, (DataW.laidRun Tryz.prog (varsWorld Tryz.prog 400 (varsId Tryz.prog) os tape).memory 8 (LL.map (·.1))).map (·.1) = some LL := fun _ _ => by kernel_rfl
end Go.Proofs.YtfningkbcfhheaaGreatDoor

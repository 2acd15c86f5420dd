/- What the tie of this program asks, one more fact. -/
import Derived.Test.YtfningkbcfhheaaGreatDoorTiA
set_option linter.unusedVariables false
set_option linter.unusedSimpArgs false
namespace Go.Proofs.YtfningkbcfhheaaGreatDoor
open Go
theorem hd : ∀ os tape, varsDone Tryz.prog 400 (varsId Tryz.prog) os tape = true := fun _ _ => by kernel_rfl
end Go.Proofs.YtfningkbcfhheaaGreatDoor

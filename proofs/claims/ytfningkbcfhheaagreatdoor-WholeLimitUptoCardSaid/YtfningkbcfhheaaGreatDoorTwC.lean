/- A world in which the tables lie. -/
import Derived.Test.YtfningkbcfhheaaGreatDoorCards
import Derived.WalkKit
import Derived.ProofKit
import Derived.OpenShut
import Derived.Deep.DeepHandedRow
import Derived.Lib.LaidTab
import Derived.Lay
import Derived.Deep.DeepWitnessRowRef
set_option linter.unusedVariables false
set_option linter.unusedSimpArgs false
namespace Go.Proofs.YtfningkbcfhheaaGreatDoor
open Go Go.ChangeShapes Go.WideShapes Go.ChangeAt Go.RowKit Go.ChangeMaps
set_option linter.unusedVariables false
set_option maxRecDepth 100000
namespace WholeLimit
noncomputable def laidWorld (os : Os) : World := World.laidAll Tryz.prog os Rows.wholeLimitUptoRow.laid
noncomputable abbrev wW (os : Os) : World := (laidWorld os).forCall (fun _ _ => 0) ⟨#[], #[.int .u8 0], []⟩
theorem lm1 (os : Os) : (World.holding Tryz.prog os ⟨#[], #[], []⟩).layFits Tryz.prog Rows.wholeLimitUptoRow.laid [] = true := by kernel_rfl
theorem lm2 (os : Os) : (World.holding Tryz.prog os ⟨#[], #[], []⟩).layIfaces Tryz.prog Rows.wholeLimitUptoRow.laid (World.laidAll Tryz.prog os Rows.wholeLimitUptoRow.laid) = true := by kernel_rfl
theorem laid_met (os : Os) : laidMet Tryz.prog Rows.wholeLimitUptoRow.laid (wW os).memory :=
  laidMet_laidAll _ (lm1 os) (lm2 os)
end WholeLimit
end Go.Proofs.YtfningkbcfhheaaGreatDoor

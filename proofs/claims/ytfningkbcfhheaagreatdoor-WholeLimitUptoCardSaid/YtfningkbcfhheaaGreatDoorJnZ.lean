/- All facts of the row. -/
import Derived.Test.YtfningkbcfhheaaGreatDoorPart33
import Derived.Test.YtfningkbcfhheaaGreatDoorJnB
import Derived.Test.YtfningkbcfhheaaGreatDoorJnF
import Derived.Test.YtfningkbcfhheaaGreatDoorJnG
import Derived.Test.YtfningkbcfhheaaGreatDoorJnH
import Derived.Test.YtfningkbcfhheaaGreatDoorJnI
import Derived.Test.YtfningkbcfhheaaGreatDoorJnL
set_option linter.unusedVariables false
set_option linter.unusedSimpArgs false
namespace Go.Proofs.YtfningkbcfhheaaGreatDoor
open Go
set_option maxRecDepth 100000
namespace WholeLimit
theorem and_t {a b : Bool} (h : a = true) (k : b = true) : (a && b) = true := by rw [h, k]; rfl
theorem joined : joinedFacts Tryz.pinned.checked.prog 6 Tryz.f6 (Rows.OpenSpec.upto Rows.wholeLimitSpec).bare Rows.wholeLimitUptoRow = true := (and_t (and_t (and_t (and_t (and_t (and_t (and_t (and_t (and_t (and_t (and_t (and_t (and_t (and_t (and_t (and_t (and_t (and_t (and_t (and_t (and_t (and_t (and_t (and_t (and_t (and_t (and_t (and_t (and_t (and_t (and_t j0 j1) j2) j3) j4) j5) j6) j7) j8) j9) j10) j11) j12) j13) j14) j15) j16) j17) j18) j19) j20) j21) j22) j23) j24) j25) j26) j27) j28) j29) j30) j31)
end WholeLimit
end Go.Proofs.YtfningkbcfhheaaGreatDoor

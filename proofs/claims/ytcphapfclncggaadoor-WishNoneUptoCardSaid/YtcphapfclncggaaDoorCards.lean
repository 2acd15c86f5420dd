/-
  DERIVED. GIVEN WITH THE SEED: THE CARDS: each row of YtcphapfclncggaaDoorRows.lean that lists a variable, with what it lists TIED to the program's text (the seventh form; the later family's looks); each row that meets fmt, with fmt's text TOLD by the authors' own Lean function (tested against real Go, not proved from fmt's source: count such statements apart). THE CARD IS WHAT COUNTS. Prove the row's statement (the work); the ties are given (YtcphapfclncggaaDoorTie.lean); close each card by the builder's one call (the guide's Derived/Test/ToyasCard.lean, 'card_holds'). Laid BY PROGRAM, IN A SANDBOX (cutbox-door.mjs). By AI agents, Wed Nov 11 2026. No macro, syntax, notation, axiom, sorry.
-/
import Derived.Test.YtcphapfclncggaaDoorRows
import GoSem.ClaimSeven
namespace Go.Proofs.YtcphapfclncggaaDoor
namespace Rows

/-- THE TIED CARD OF 'rollcalllaw21.WishAsks'. -/
def wishAsksCard : Claim7 := { stood := { row := wishAsksRow, standIns := [], harness := (true, "9e825f8e27e2f3313bb1bf3a65814b344e3eb41be1ea88118d00b623a7cdd4f1"), looks := false }, kinds := [], alts := [], laidByText := true, laidKinds := [.data, .pinned], laidTests := true, laidLooks := .later }
def WishAsksCardSaid : Prop := Claim7.holds Tryd.pinned (.plain (OpenSpec.ofChange wishAsksSpec)) wishAsksCard

/-- THE TIED CARD OF 'rollcalllaw21.WishBoth'. -/
def wishBothCard : Claim7 := { stood := { row := wishBothRow, standIns := [], harness := (true, "9e825f8e27e2f3313bb1bf3a65814b344e3eb41be1ea88118d00b623a7cdd4f1"), looks := false }, kinds := [], alts := [], laidByText := true, laidKinds := [.data, .pinned], laidTests := true, laidLooks := .later }
def WishBothCardSaid : Prop := Claim7.holds Tryd.pinned (.plain (OpenSpec.ofChange wishBothSpec)) wishBothCard

/-- THE TIED CARD OF 'rollcalllaw21.WishNone'. -/
def wishNoneCard : Claim7 := { stood := { row := wishNoneRow, standIns := [], harness := (true, "9e825f8e27e2f3313bb1bf3a65814b344e3eb41be1ea88118d00b623a7cdd4f1"), looks := false }, kinds := [], alts := [], laidByText := true, laidKinds := [.data, .pinned], laidTests := true, laidLooks := .later }
def WishNoneCardSaid : Prop := Claim7.holds Tryd.pinned (.plain (OpenSpec.ofChange wishNoneSpec)) wishNoneCard

/-- THE SECOND FORM's CARD OF 'rollcalllaw21.WishAsks'. -/
def wishAsksUptoCard : Claim7 := { stood := { row := wishAsksUptoRow, standIns := [], harness := (true, "9e825f8e27e2f3313bb1bf3a65814b344e3eb41be1ea88118d00b623a7cdd4f1"), looks := false }, kinds := [], alts := [], laidByText := true, laidKinds := [.data, .pinned], laidTests := true, laidLooks := .later }
def WishAsksUptoCardSaid : Prop := Claim7.holds Tryd.pinned (.plain (OpenSpec.upto wishAsksSpec)) wishAsksUptoCard

/-- THE SECOND FORM's CARD OF 'rollcalllaw21.WishBoth'. -/
def wishBothUptoCard : Claim7 := { stood := { row := wishBothUptoRow, standIns := [], harness := (true, "9e825f8e27e2f3313bb1bf3a65814b344e3eb41be1ea88118d00b623a7cdd4f1"), looks := false }, kinds := [], alts := [], laidByText := true, laidKinds := [.data, .pinned], laidTests := true, laidLooks := .later }
def WishBothUptoCardSaid : Prop := Claim7.holds Tryd.pinned (.plain (OpenSpec.upto wishBothSpec)) wishBothUptoCard

/-- THE SECOND FORM's CARD OF 'rollcalllaw21.WishNone'. -/
def wishNoneUptoCard : Claim7 := { stood := { row := wishNoneUptoRow, standIns := [], harness := (true, "9e825f8e27e2f3313bb1bf3a65814b344e3eb41be1ea88118d00b623a7cdd4f1"), looks := false }, kinds := [], alts := [], laidByText := true, laidKinds := [.data, .pinned], laidTests := true, laidLooks := .later }
def WishNoneUptoCardSaid : Prop := Claim7.holds Tryd.pinned (.plain (OpenSpec.upto wishNoneSpec)) wishNoneUptoCard
end Rows
end Go.Proofs.YtcphapfclncggaaDoor

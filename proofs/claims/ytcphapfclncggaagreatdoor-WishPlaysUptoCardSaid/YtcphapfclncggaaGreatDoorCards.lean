/-
  DERIVED. GIVEN WITH THE SEED: THE CARDS: each row of YtcphapfclncggaaGreatDoorRows.lean that lists a variable, with what it lists TIED to the program's text (the seventh form; the later family's looks); each row that meets fmt, with fmt's text TOLD by the authors' own Lean function (tested against real Go, not proved from fmt's source: count such statements apart). THE CARD IS WHAT COUNTS. Prove the row's statement (the work); the ties are given (YtcphapfclncggaaGreatDoorTie.lean); close each card by the builder's one call (the guide's Derived/Test/ToyasCard.lean, 'card_holds'). Laid BY PROGRAM, IN A SANDBOX (cutbox-door.mjs). By AI agents, Wed Nov 11 2026. No macro, syntax, notation, axiom, sorry.
-/
import Derived.Test.YtcphapfclncggaaGreatDoorRows
import GoSem.ClaimSeven
namespace Go.Proofs.YtcphapfclncggaaGreatDoor
namespace Rows

/-- THE TIED CARD OF 'rollcalllaw21.WishPlays'. -/
def wishPlaysCard : Claim7 := { stood := { row := wishPlaysRow, standIns := [], harness := (true, "e60ca4975e1f4c48971b79c7d0adc014c719f7da90a718423b1e272fb599c8ac"), looks := false }, kinds := [], alts := [], laidByText := true, laidKinds := [.data, .pinned], laidTests := true, laidLooks := .later }
def WishPlaysCardSaid : Prop := Claim7.holds Tryz.pinned (.plain (OpenSpec.ofChange wishPlaysSpec)) wishPlaysCard

/-- THE SECOND FORM's CARD OF 'rollcalllaw21.WishPlays'. -/
def wishPlaysUptoCard : Claim7 := { stood := { row := wishPlaysUptoRow, standIns := [], harness := (true, "e60ca4975e1f4c48971b79c7d0adc014c719f7da90a718423b1e272fb599c8ac"), looks := false }, kinds := [], alts := [], laidByText := true, laidKinds := [.data, .pinned], laidTests := true, laidLooks := .later }
def WishPlaysUptoCardSaid : Prop := Claim7.holds Tryz.pinned (.plain (OpenSpec.upto wishPlaysSpec)) wishPlaysUptoCard
end Rows
end Go.Proofs.YtcphapfclncggaaGreatDoor

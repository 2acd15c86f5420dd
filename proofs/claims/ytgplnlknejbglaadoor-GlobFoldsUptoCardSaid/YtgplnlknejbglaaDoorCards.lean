/-
  DERIVED. GIVEN WITH THE SEED: THE CARDS: each row of YtgplnlknejbglaaDoorRows.lean that lists a variable, with what it lists TIED to the program's text (the seventh form; the later family's looks); each row that meets fmt, with fmt's text TOLD by the authors' own Lean function (tested against real Go, not proved from fmt's source: count such statements apart). THE CARD IS WHAT COUNTS. Prove the row's statement (the work); the ties are given (YtgplnlknejbglaaDoorTie.lean); close each card by the builder's one call (the guide's Derived/Test/ToyasCard.lean, 'card_holds'). Laid BY PROGRAM, IN A SANDBOX (cutbox-door.mjs). By AI agents, Wed Nov 11 2026. No macro, syntax, notation, axiom, sorry.
-/
import Derived.Test.YtgplnlknejbglaaDoorRows
import GoSem.ClaimSeven
namespace Go.Proofs.YtgplnlknejbglaaDoor
namespace Rows

/-- THE TIED CARD OF 'rollcalllaw04.GlobHits'. -/
def globHitsCard : Claim7 := { stood := { row := globHitsRow, standIns := [], harness := (true, "54c8ddf636873c46f2f63ef0bfa9832becc12bbfcc789e8255085f2459079f57"), looks := false }, kinds := [], alts := [], laidByText := true, laidKinds := [.data, .pinned], laidTests := true, laidLooks := .later }
def GlobHitsCardSaid : Prop := Claim7.holds Tryd.pinned (.plain (OpenSpec.ofChange globHitsSpec)) globHitsCard

/-- THE TIED CARD OF 'rollcalllaw04.GlobMatches'. -/
def globMatchesCard : Claim7 := { stood := { row := globMatchesRow, standIns := [], harness := (true, "54c8ddf636873c46f2f63ef0bfa9832becc12bbfcc789e8255085f2459079f57"), looks := false }, kinds := [], alts := [], laidByText := true, laidKinds := [.data, .pinned], laidTests := true, laidLooks := .later }
def GlobMatchesCardSaid : Prop := Claim7.holds Tryd.pinned (.plain (OpenSpec.ofChange globMatchesSpec)) globMatchesCard

/-- THE TIED CARD OF 'rollcalllaw04.GlobCompletes'. -/
def globCompletesCard : Claim7 := { stood := { row := globCompletesRow, standIns := [], harness := (true, "54c8ddf636873c46f2f63ef0bfa9832becc12bbfcc789e8255085f2459079f57"), looks := false }, kinds := [], alts := [], laidByText := true, laidKinds := [.data, .pinned], laidTests := true, laidLooks := .later }
def GlobCompletesCardSaid : Prop := Claim7.holds Tryd.pinned (.plain (OpenSpec.ofChange globCompletesSpec)) globCompletesCard

/-- THE TIED CARD OF 'rollcalllaw04.GlobShorts'. -/
def globShortsCard : Claim7 := { stood := { row := globShortsRow, standIns := [], harness := (true, "54c8ddf636873c46f2f63ef0bfa9832becc12bbfcc789e8255085f2459079f57"), looks := false }, kinds := [], alts := [], laidByText := true, laidKinds := [.data, .pinned], laidTests := true, laidLooks := .later }
def GlobShortsCardSaid : Prop := Claim7.holds Tryd.pinned (.plain (OpenSpec.ofChange globShortsSpec)) globShortsCard

/-- THE TIED CARD OF 'rollcalllaw04.GlobParts'. -/
def globPartsCard : Claim7 := { stood := { row := globPartsRow, standIns := [], harness := (true, "54c8ddf636873c46f2f63ef0bfa9832becc12bbfcc789e8255085f2459079f57"), looks := false }, kinds := [], alts := [], laidByText := true, laidKinds := [.data, .pinned], laidTests := true, laidLooks := .later }
def GlobPartsCardSaid : Prop := Claim7.holds Tryd.pinned (.plain (OpenSpec.ofChange globPartsSpec)) globPartsCard

/-- THE TIED CARD OF 'rollcalllaw04.GlobFolds'. -/
def globFoldsCard : Claim7 := { stood := { row := globFoldsRow, standIns := [], harness := (true, "54c8ddf636873c46f2f63ef0bfa9832becc12bbfcc789e8255085f2459079f57"), looks := false }, kinds := [], alts := [], laidByText := true, laidKinds := [.data, .pinned], laidTests := true, laidLooks := .later }
def GlobFoldsCardSaid : Prop := Claim7.holds Tryd.pinned (.plain (OpenSpec.ofChange globFoldsSpec)) globFoldsCard

/-- THE SECOND FORM's CARD OF 'rollcalllaw04.GlobHits'. -/
def globHitsUptoCard : Claim7 := { stood := { row := globHitsUptoRow, standIns := [], harness := (true, "54c8ddf636873c46f2f63ef0bfa9832becc12bbfcc789e8255085f2459079f57"), looks := false }, kinds := [], alts := [], laidByText := true, laidKinds := [.data, .pinned], laidTests := true, laidLooks := .later }
def GlobHitsUptoCardSaid : Prop := Claim7.holds Tryd.pinned (.plain (OpenSpec.upto globHitsSpec)) globHitsUptoCard

/-- THE SECOND FORM's CARD OF 'rollcalllaw04.GlobMatches'. -/
def globMatchesUptoCard : Claim7 := { stood := { row := globMatchesUptoRow, standIns := [], harness := (true, "54c8ddf636873c46f2f63ef0bfa9832becc12bbfcc789e8255085f2459079f57"), looks := false }, kinds := [], alts := [], laidByText := true, laidKinds := [.data, .pinned], laidTests := true, laidLooks := .later }
def GlobMatchesUptoCardSaid : Prop := Claim7.holds Tryd.pinned (.plain (OpenSpec.upto globMatchesSpec)) globMatchesUptoCard

/-- THE SECOND FORM's CARD OF 'rollcalllaw04.GlobCompletes'. -/
def globCompletesUptoCard : Claim7 := { stood := { row := globCompletesUptoRow, standIns := [], harness := (true, "54c8ddf636873c46f2f63ef0bfa9832becc12bbfcc789e8255085f2459079f57"), looks := false }, kinds := [], alts := [], laidByText := true, laidKinds := [.data, .pinned], laidTests := true, laidLooks := .later }
def GlobCompletesUptoCardSaid : Prop := Claim7.holds Tryd.pinned (.plain (OpenSpec.upto globCompletesSpec)) globCompletesUptoCard

/-- THE SECOND FORM's CARD OF 'rollcalllaw04.GlobShorts'. -/
def globShortsUptoCard : Claim7 := { stood := { row := globShortsUptoRow, standIns := [], harness := (true, "54c8ddf636873c46f2f63ef0bfa9832becc12bbfcc789e8255085f2459079f57"), looks := false }, kinds := [], alts := [], laidByText := true, laidKinds := [.data, .pinned], laidTests := true, laidLooks := .later }
def GlobShortsUptoCardSaid : Prop := Claim7.holds Tryd.pinned (.plain (OpenSpec.upto globShortsSpec)) globShortsUptoCard

/-- THE SECOND FORM's CARD OF 'rollcalllaw04.GlobParts'. -/
def globPartsUptoCard : Claim7 := { stood := { row := globPartsUptoRow, standIns := [], harness := (true, "54c8ddf636873c46f2f63ef0bfa9832becc12bbfcc789e8255085f2459079f57"), looks := false }, kinds := [], alts := [], laidByText := true, laidKinds := [.data, .pinned], laidTests := true, laidLooks := .later }
def GlobPartsUptoCardSaid : Prop := Claim7.holds Tryd.pinned (.plain (OpenSpec.upto globPartsSpec)) globPartsUptoCard

/-- THE SECOND FORM's CARD OF 'rollcalllaw04.GlobFolds'. -/
def globFoldsUptoCard : Claim7 := { stood := { row := globFoldsUptoRow, standIns := [], harness := (true, "54c8ddf636873c46f2f63ef0bfa9832becc12bbfcc789e8255085f2459079f57"), looks := false }, kinds := [], alts := [], laidByText := true, laidKinds := [.data, .pinned], laidTests := true, laidLooks := .later }
def GlobFoldsUptoCardSaid : Prop := Claim7.holds Tryd.pinned (.plain (OpenSpec.upto globFoldsSpec)) globFoldsUptoCard
end Rows
end Go.Proofs.YtgplnlknejbglaaDoor

/-
  DERIVED. GIVEN WITH THE SEED: THE CARDS: each row of YtfningkbcfhheaaGreatDoorRows.lean that lists a variable, with what it lists TIED to the program's text (the seventh form; the later family's looks); each row that meets fmt, with fmt's text TOLD by the authors' own Lean function (tested against real Go, not proved from fmt's source: count such statements apart). THE CARD IS WHAT COUNTS. Prove the row's statement (the work); the ties are given (YtfningkbcfhheaaGreatDoorTie.lean); close each card by the builder's one call (the guide's Derived/Test/ToyasCard.lean, 'card_holds'). Laid BY PROGRAM, IN A SANDBOX (cutbox-door.mjs). By AI agents, Wed Nov 11 2026. No macro, syntax, notation, axiom, sorry.
-/
import Derived.Test.YtfningkbcfhheaaGreatDoorRows
import GoSem.ClaimSeven
namespace Go.Proofs.YtfningkbcfhheaaGreatDoor
namespace Rows

/-- THE TIED CARD OF 'rollcalltop.WholeMarks'. -/
def wholeMarksCard : Claim7 := { stood := { row := wholeMarksRow, standIns := [], harness := (true, "c71447810d31f4f91b0a1bc35e6247ba0f67f19be2241624f5a83bd9a31dc9d4"), looks := true }, kinds := [], alts := [], laidByText := true, laidKinds := [.pinned, .data, .data, .data, .data, .sentinel, .sentinel], laidTests := true, laidLooks := .later }
def WholeMarksCardSaid : Prop := Claim7.holds Tryz.pinned (.plain (OpenSpec.ofChange wholeMarksSpec)) wholeMarksCard

/-- THE TIED CARD OF 'rollcalltop.WholeInvite'. -/
def wholeInviteCard : Claim7 := { stood := { row := wholeInviteRow, standIns := [], harness := (true, "c71447810d31f4f91b0a1bc35e6247ba0f67f19be2241624f5a83bd9a31dc9d4"), looks := true }, kinds := [], alts := [], laidByText := true, laidKinds := [.pinned, .data, .data, .data, .data, .sentinel, .sentinel], laidTests := true, laidLooks := .later }
def WholeInviteCardSaid : Prop := Claim7.holds Tryz.pinned (.plain (OpenSpec.ofChange wholeInviteSpec)) wholeInviteCard

/-- THE TIED CARD OF 'rollcalltop.WholeKick'. -/
def wholeKickCard : Claim7 := { stood := { row := wholeKickRow, standIns := [], harness := (true, "c71447810d31f4f91b0a1bc35e6247ba0f67f19be2241624f5a83bd9a31dc9d4"), looks := true }, kinds := [], alts := [], laidByText := true, laidKinds := [.pinned, .data, .data, .data, .data, .sentinel, .sentinel], laidTests := true, laidLooks := .later }
def WholeKickCardSaid : Prop := Claim7.holds Tryz.pinned (.plain (OpenSpec.ofChange wholeKickSpec)) wholeKickCard

/-- THE TIED CARD OF 'rollcalltop.WholeLimit'. -/
def wholeLimitCard : Claim7 := { stood := { row := wholeLimitRow, standIns := [], harness := (true, "c71447810d31f4f91b0a1bc35e6247ba0f67f19be2241624f5a83bd9a31dc9d4"), looks := true }, kinds := [], alts := [], laidByText := true, laidKinds := [.pinned, .data, .data, .data, .data, .sentinel, .sentinel], laidTests := true, laidLooks := .later }
def WholeLimitCardSaid : Prop := Claim7.holds Tryz.pinned (.plain (OpenSpec.ofChange wholeLimitSpec)) wholeLimitCard

/-- THE TIED CARD OF 'rollcalltop.WholeKill'. -/
def wholeKillCard : Claim7 := { stood := { row := wholeKillRow, standIns := [], harness := (true, "c71447810d31f4f91b0a1bc35e6247ba0f67f19be2241624f5a83bd9a31dc9d4"), looks := true }, kinds := [], alts := [], laidByText := true, laidKinds := [.pinned, .data, .data, .data, .data, .sentinel, .sentinel], laidTests := true, laidLooks := .later }
def WholeKillCardSaid : Prop := Claim7.holds Tryz.pinned (.plain (OpenSpec.ofChange wholeKillSpec)) wholeKillCard

/-- THE SECOND FORM's CARD OF 'rollcalltop.WholeMarks'. -/
def wholeMarksUptoCard : Claim7 := { stood := { row := wholeMarksUptoRow, standIns := [], harness := (true, "c71447810d31f4f91b0a1bc35e6247ba0f67f19be2241624f5a83bd9a31dc9d4"), looks := true }, kinds := [], alts := [], laidByText := true, laidKinds := [.pinned, .data, .data, .data, .data, .sentinel, .sentinel], laidTests := true, laidLooks := .later }
def WholeMarksUptoCardSaid : Prop := Claim7.holds Tryz.pinned (.plain (OpenSpec.upto wholeMarksSpec)) wholeMarksUptoCard

/-- THE SECOND FORM's CARD OF 'rollcalltop.WholeInvite'. -/
def wholeInviteUptoCard : Claim7 := { stood := { row := wholeInviteUptoRow, standIns := [], harness := (true, "c71447810d31f4f91b0a1bc35e6247ba0f67f19be2241624f5a83bd9a31dc9d4"), looks := true }, kinds := [], alts := [], laidByText := true, laidKinds := [.pinned, .data, .data, .data, .data, .sentinel, .sentinel], laidTests := true, laidLooks := .later }
def WholeInviteUptoCardSaid : Prop := Claim7.holds Tryz.pinned (.plain (OpenSpec.upto wholeInviteSpec)) wholeInviteUptoCard

/-- THE SECOND FORM's CARD OF 'rollcalltop.WholeKick'. -/
def wholeKickUptoCard : Claim7 := { stood := { row := wholeKickUptoRow, standIns := [], harness := (true, "c71447810d31f4f91b0a1bc35e6247ba0f67f19be2241624f5a83bd9a31dc9d4"), looks := true }, kinds := [], alts := [], laidByText := true, laidKinds := [.pinned, .data, .data, .data, .data, .sentinel, .sentinel], laidTests := true, laidLooks := .later }
def WholeKickUptoCardSaid : Prop := Claim7.holds Tryz.pinned (.plain (OpenSpec.upto wholeKickSpec)) wholeKickUptoCard

/-- THE SECOND FORM's CARD OF 'rollcalltop.WholeLimit'. -/
def wholeLimitUptoCard : Claim7 := { stood := { row := wholeLimitUptoRow, standIns := [], harness := (true, "c71447810d31f4f91b0a1bc35e6247ba0f67f19be2241624f5a83bd9a31dc9d4"), looks := true }, kinds := [], alts := [], laidByText := true, laidKinds := [.pinned, .data, .data, .data, .data, .sentinel, .sentinel], laidTests := true, laidLooks := .later }
def WholeLimitUptoCardSaid : Prop := Claim7.holds Tryz.pinned (.plain (OpenSpec.upto wholeLimitSpec)) wholeLimitUptoCard

/-- THE SECOND FORM's CARD OF 'rollcalltop.WholeKill'. -/
def wholeKillUptoCard : Claim7 := { stood := { row := wholeKillUptoRow, standIns := [], harness := (true, "c71447810d31f4f91b0a1bc35e6247ba0f67f19be2241624f5a83bd9a31dc9d4"), looks := true }, kinds := [], alts := [], laidByText := true, laidKinds := [.pinned, .data, .data, .data, .data, .sentinel, .sentinel], laidTests := true, laidLooks := .later }
def WholeKillUptoCardSaid : Prop := Claim7.holds Tryz.pinned (.plain (OpenSpec.upto wholeKillSpec)) wholeKillUptoCard
end Rows
end Go.Proofs.YtfningkbcfhheaaGreatDoor

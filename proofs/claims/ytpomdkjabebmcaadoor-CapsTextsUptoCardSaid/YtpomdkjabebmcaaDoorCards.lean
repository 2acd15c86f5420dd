/-
  DERIVED. GIVEN WITH THE SEED: THE CARDS: each row of YtpomdkjabebmcaaDoorRows.lean that lists a variable, with what it lists TIED to the program's text (the seventh form; the later family's looks); each row that meets fmt, with fmt's text TOLD by the authors' own Lean function (tested against real Go, not proved from fmt's source: count such statements apart). THE CARD IS WHAT COUNTS. Prove the row's statement (the work); the ties are given (YtpomdkjabebmcaaDoorTie.lean); close each card by the builder's one call (the guide's Derived/Test/ToyasCard.lean, 'card_holds'). Laid BY PROGRAM, IN A SANDBOX (cutbox-door.mjs). By AI agents, Wed Nov 11 2026. No macro, syntax, notation, axiom, sorry.
-/
import Derived.Test.YtpomdkjabebmcaaDoorRows
import GoSem.ClaimSeven
namespace Go.Proofs.YtpomdkjabebmcaaDoor
namespace Rows

/-- THE TIED CARD OF 'rollcalllaw12.CapsApply'. -/
def capsApplyCard : Claim7 := { stood := { row := capsApplyRow, standIns := [], harness := (true, "639f4ddb867b9e74b8549023d80e064867ed6290bf0dbd789f60e976af5c9355"), looks := false }, kinds := [], alts := [], laidByText := true, laidKinds := [.data, .pinned], laidTests := true, laidLooks := .later }
def CapsApplyCardSaid : Prop := Claim7.holds Tryd.pinned (.plain (OpenSpec.ofChange capsApplySpec)) capsApplyCard

/-- THE TIED CARD OF 'rollcalllaw12.CapsTwo'. -/
def capsTwoCard : Claim7 := { stood := { row := capsTwoRow, standIns := [], harness := (true, "639f4ddb867b9e74b8549023d80e064867ed6290bf0dbd789f60e976af5c9355"), looks := false }, kinds := [], alts := [], laidByText := true, laidKinds := [.data, .pinned], laidTests := true, laidLooks := .later }
def CapsTwoCardSaid : Prop := Claim7.holds Tryd.pinned (.plain (OpenSpec.ofChange capsTwoSpec)) capsTwoCard

/-- THE TIED CARD OF 'rollcalllaw12.CapsTexts'. -/
def capsTextsCard : Claim7 := { stood := { row := capsTextsRow, standIns := [], harness := (true, "639f4ddb867b9e74b8549023d80e064867ed6290bf0dbd789f60e976af5c9355"), looks := false }, kinds := [], alts := [], laidByText := true, laidKinds := [.data, .pinned], laidTests := true, laidLooks := .later }
def CapsTextsCardSaid : Prop := Claim7.holds Tryd.pinned (.plain (OpenSpec.ofChange capsTextsSpec)) capsTextsCard

/-- THE SECOND FORM's CARD OF 'rollcalllaw12.CapsApply'. -/
def capsApplyUptoCard : Claim7 := { stood := { row := capsApplyUptoRow, standIns := [], harness := (true, "639f4ddb867b9e74b8549023d80e064867ed6290bf0dbd789f60e976af5c9355"), looks := false }, kinds := [], alts := [], laidByText := true, laidKinds := [.data, .pinned], laidTests := true, laidLooks := .later }
def CapsApplyUptoCardSaid : Prop := Claim7.holds Tryd.pinned (.plain (OpenSpec.upto capsApplySpec)) capsApplyUptoCard

/-- THE SECOND FORM's CARD OF 'rollcalllaw12.CapsTwo'. -/
def capsTwoUptoCard : Claim7 := { stood := { row := capsTwoUptoRow, standIns := [], harness := (true, "639f4ddb867b9e74b8549023d80e064867ed6290bf0dbd789f60e976af5c9355"), looks := false }, kinds := [], alts := [], laidByText := true, laidKinds := [.data, .pinned], laidTests := true, laidLooks := .later }
def CapsTwoUptoCardSaid : Prop := Claim7.holds Tryd.pinned (.plain (OpenSpec.upto capsTwoSpec)) capsTwoUptoCard

/-- THE SECOND FORM's CARD OF 'rollcalllaw12.CapsTexts'. -/
def capsTextsUptoCard : Claim7 := { stood := { row := capsTextsUptoRow, standIns := [], harness := (true, "639f4ddb867b9e74b8549023d80e064867ed6290bf0dbd789f60e976af5c9355"), looks := false }, kinds := [], alts := [], laidByText := true, laidKinds := [.data, .pinned], laidTests := true, laidLooks := .later }
def CapsTextsUptoCardSaid : Prop := Claim7.holds Tryd.pinned (.plain (OpenSpec.upto capsTextsSpec)) capsTextsUptoCard
end Rows
end Go.Proofs.YtpomdkjabebmcaaDoor

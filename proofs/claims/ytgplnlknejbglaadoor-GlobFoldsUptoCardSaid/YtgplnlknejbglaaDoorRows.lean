/-
  NARROWER THAN 'FOR EVERY INPUT', by the rows' own cells (each row's printed sentence says how): GlobHits: laid · GlobMatches: laid · GlobCompletes: laid · GlobShorts: laid · GlobParts: laid · GlobFolds: laid.
  DERIVED. THE GIVEN ROWS OF THIS SEAT. 6 by the template 'for every input the law returns true; each argument reads behind the call as it read before'; 0 by the template 'total and deterministic' (their statements: YtgplnlknejbglaaDoorTotals.lean).
  GIVEN WITH THE SEED: the statements are not yours to turn. If you find one false, say at which input.
  Laid BY PROGRAM, IN A SANDBOX (cutbox-rows.mjs): the forced cells as the released guide's own fill.sh prints them over the translation 3ba16aaf3d2b1016… (all of the seat's roots in one cut). By AI agents, Wed Nov 11 2026. No macro, syntax, notation, axiom, sorry.
-/
import Derived.Test.YtgplnlknejbglaaDoorChecked
import GoSem.PinnedTables
import GoSem.Claim
import GoSem.ClaimJoined
import GoSem.ClaimMapViews
import Derived.JoinedTies
import Derived.KernelRfl
namespace Go.Proofs.YtgplnlknejbglaaDoor
/- THE CELL 'sum', in the pinned program and in every row, IS THE sha256 OF THE DUMP (.gsa) THAT YtgplnlknejbglaaDoorProg.lean LOADS. Nothing in Lean hashes anything: it is a label: what it is worth is what the hold of that sum in a sandbox is worth. -/
noncomputable def Tryd.pinned : Pinned := { name := "ytgplnlknejbglaadoor", sum := "3ba16aaf3d2b1016d53996e190789c0517aaf3c04de42b1334fe22f50f02671a", checked := Tryd.checked }
namespace Rows
def none {H : Type} : Left H := { results := [], args := [] }

/- WHAT THE LISTED PACKAGE-LEVEL VARIABLES READ AS WHEN THE CALL BEGINS. Each datum BY PROGRAM (the guide's laid-datum.mjs) off the statement by which the dump's own 'gosem.cut.vars' lays the variable. In a bare row this is a premise. The card (YtgplnlknejbglaaDoorCards.lean) ties it to the program's text. -/
def laid_unicode_utf8_acceptRanges {H : Type} : DataW H := .agg [.agg [.lit (.int .u8 128), .lit (.int .u8 191)], .agg [.lit (.int .u8 160), .lit (.int .u8 191)], .agg [.lit (.int .u8 128), .lit (.int .u8 159)], .agg [.lit (.int .u8 144), .lit (.int .u8 191)], .agg [.lit (.int .u8 128), .lit (.int .u8 143)], .agg [.lit (.int .u8 0), .lit (.int .u8 0)], .agg [.lit (.int .u8 0), .lit (.int .u8 0)], .agg [.lit (.int .u8 0), .lit (.int .u8 0)], .agg [.lit (.int .u8 0), .lit (.int .u8 0)], .agg [.lit (.int .u8 0), .lit (.int .u8 0)], .agg [.lit (.int .u8 0), .lit (.int .u8 0)], .agg [.lit (.int .u8 0), .lit (.int .u8 0)], .agg [.lit (.int .u8 0), .lit (.int .u8 0)], .agg [.lit (.int .u8 0), .lit (.int .u8 0)], .agg [.lit (.int .u8 0), .lit (.int .u8 0)], .agg [.lit (.int .u8 0), .lit (.int .u8 0)]]
/-- One of Go's own tables, pinned by name: the form's constant. -/
def laid_unicode_utf8_first : DataW Unit := Go.Pinned.utf8First

/-- 'rollcalllaw04.GlobHits': WHATEVER THE INPUT: true; the input reads as it did. -/
def globHitsSpec : ChangeSpec := { name := "globHits", fn := fun _ => fun
  | [d1, d2, d3, d4] => { results := [.lit (.bool true)], args := [d1, d2, d3, d4] }
  | _ => none }
def globHitsRow : OpenClaim := { program := "ytgplnlknejbglaadoor", sum := "3ba16aaf3d2b1016d53996e190789c0517aaf3c04de42b1334fe22f50f02671a", func := "rollcall/rollcalllaw04.GlobHits", spec := "globHits", inPlace := ["internal/bytealg.IndexByteString", "internal/bytealg.IndexString", "internal/abi.NoEscape", "internal/bytealg.CountString", "internal/bytealg.MakeNoZero"], named := ["internal/bytealg.MaxLen", "unicode/utf8.first", "unicode/utf8.acceptRanges"], apart := false, laid := [("unicode/utf8.acceptRanges", laid_unicode_utf8_acceptRanges), ("unicode/utf8.first", laid_unicode_utf8_first)] }
def GlobHitsSaid : Prop := globHitsRow.holds Tryd.pinned (OpenSpec.ofChange globHitsSpec)

/-- ITS FALSE NEIGHBOUR: 'it returns false'. Refute it at one input. -/
def globHitsWrong : ChangeSpec := { name := "globHits", fn := fun _ => fun
  | [d1, d2, d3, d4] => { results := [.lit (.bool false)], args := [d1, d2, d3, d4] }
  | _ => none }
def GlobHitsWrongFalsely : Prop := globHitsRow.holds Tryd.pinned (OpenSpec.ofChange globHitsWrong)

/-- 'rollcalllaw04.GlobMatches': WHATEVER THE INPUT: true; the input reads as it did. -/
def globMatchesSpec : ChangeSpec := { name := "globMatches", fn := fun _ => fun
  | [d1, d2] => { results := [.lit (.bool true)], args := [d1, d2] }
  | _ => none }
def globMatchesRow : OpenClaim := { program := "ytgplnlknejbglaadoor", sum := "3ba16aaf3d2b1016d53996e190789c0517aaf3c04de42b1334fe22f50f02671a", func := "rollcall/rollcalllaw04.GlobMatches", spec := "globMatches", inPlace := ["internal/bytealg.IndexByteString", "internal/bytealg.IndexString", "internal/abi.NoEscape", "internal/bytealg.CountString", "internal/bytealg.MakeNoZero"], named := ["internal/bytealg.MaxLen", "unicode/utf8.first", "unicode/utf8.acceptRanges"], apart := false, laid := [("unicode/utf8.acceptRanges", laid_unicode_utf8_acceptRanges), ("unicode/utf8.first", laid_unicode_utf8_first)] }
def GlobMatchesSaid : Prop := globMatchesRow.holds Tryd.pinned (OpenSpec.ofChange globMatchesSpec)

/-- ITS FALSE NEIGHBOUR: 'it returns false'. Refute it at one input. -/
def globMatchesWrong : ChangeSpec := { name := "globMatches", fn := fun _ => fun
  | [d1, d2] => { results := [.lit (.bool false)], args := [d1, d2] }
  | _ => none }
def GlobMatchesWrongFalsely : Prop := globMatchesRow.holds Tryd.pinned (OpenSpec.ofChange globMatchesWrong)

/-- 'rollcalllaw04.GlobCompletes': WHATEVER THE INPUT: true; the input reads as it did. -/
def globCompletesSpec : ChangeSpec := { name := "globCompletes", fn := fun _ => fun
  | [d] => { results := [.lit (.bool true)], args := [d] }
  | _ => none }
def globCompletesRow : OpenClaim := { program := "ytgplnlknejbglaadoor", sum := "3ba16aaf3d2b1016d53996e190789c0517aaf3c04de42b1334fe22f50f02671a", func := "rollcall/rollcalllaw04.GlobCompletes", spec := "globCompletes", inPlace := ["internal/bytealg.IndexByteString", "internal/bytealg.IndexString", "internal/abi.NoEscape", "internal/bytealg.CountString", "internal/bytealg.MakeNoZero"], named := ["internal/bytealg.MaxLen", "unicode/utf8.first", "unicode/utf8.acceptRanges"], apart := false, laid := [("unicode/utf8.acceptRanges", laid_unicode_utf8_acceptRanges), ("unicode/utf8.first", laid_unicode_utf8_first)] }
def GlobCompletesSaid : Prop := globCompletesRow.holds Tryd.pinned (OpenSpec.ofChange globCompletesSpec)

/-- ITS FALSE NEIGHBOUR: 'it returns false'. Refute it at one input. -/
def globCompletesWrong : ChangeSpec := { name := "globCompletes", fn := fun _ => fun
  | [d] => { results := [.lit (.bool false)], args := [d] }
  | _ => none }
def GlobCompletesWrongFalsely : Prop := globCompletesRow.holds Tryd.pinned (OpenSpec.ofChange globCompletesWrong)

/-- 'rollcalllaw04.GlobShorts': WHATEVER THE INPUT: true; the input reads as it did. -/
def globShortsSpec : ChangeSpec := { name := "globShorts", fn := fun _ => fun
  | [d1, d2] => { results := [.lit (.bool true)], args := [d1, d2] }
  | _ => none }
def globShortsRow : OpenClaim := { program := "ytgplnlknejbglaadoor", sum := "3ba16aaf3d2b1016d53996e190789c0517aaf3c04de42b1334fe22f50f02671a", func := "rollcall/rollcalllaw04.GlobShorts", spec := "globShorts", inPlace := ["internal/bytealg.IndexByteString", "internal/bytealg.IndexString", "internal/abi.NoEscape", "internal/bytealg.CountString", "internal/bytealg.MakeNoZero"], named := ["internal/bytealg.MaxLen", "unicode/utf8.first", "unicode/utf8.acceptRanges"], apart := false, laid := [("unicode/utf8.acceptRanges", laid_unicode_utf8_acceptRanges), ("unicode/utf8.first", laid_unicode_utf8_first)] }
def GlobShortsSaid : Prop := globShortsRow.holds Tryd.pinned (OpenSpec.ofChange globShortsSpec)

/-- ITS FALSE NEIGHBOUR: 'it returns false'. Refute it at one input. -/
def globShortsWrong : ChangeSpec := { name := "globShorts", fn := fun _ => fun
  | [d1, d2] => { results := [.lit (.bool false)], args := [d1, d2] }
  | _ => none }
def GlobShortsWrongFalsely : Prop := globShortsRow.holds Tryd.pinned (OpenSpec.ofChange globShortsWrong)

/-- 'rollcalllaw04.GlobParts': WHATEVER THE INPUT: true; the input reads as it did. -/
def globPartsSpec : ChangeSpec := { name := "globParts", fn := fun _ => fun
  | [d1, d2, d3] => { results := [.lit (.bool true)], args := [d1, d2, d3] }
  | _ => none }
def globPartsRow : OpenClaim := { program := "ytgplnlknejbglaadoor", sum := "3ba16aaf3d2b1016d53996e190789c0517aaf3c04de42b1334fe22f50f02671a", func := "rollcall/rollcalllaw04.GlobParts", spec := "globParts", inPlace := ["internal/bytealg.IndexByteString", "internal/bytealg.IndexString", "internal/abi.NoEscape", "internal/bytealg.CountString", "internal/bytealg.MakeNoZero"], named := ["internal/bytealg.MaxLen", "unicode/utf8.first", "unicode/utf8.acceptRanges"], apart := false, laid := [("unicode/utf8.acceptRanges", laid_unicode_utf8_acceptRanges), ("unicode/utf8.first", laid_unicode_utf8_first)] }
def GlobPartsSaid : Prop := globPartsRow.holds Tryd.pinned (OpenSpec.ofChange globPartsSpec)

/-- ITS FALSE NEIGHBOUR: 'it returns false'. Refute it at one input. -/
def globPartsWrong : ChangeSpec := { name := "globParts", fn := fun _ => fun
  | [d1, d2, d3] => { results := [.lit (.bool false)], args := [d1, d2, d3] }
  | _ => none }
def GlobPartsWrongFalsely : Prop := globPartsRow.holds Tryd.pinned (OpenSpec.ofChange globPartsWrong)

/-- 'rollcalllaw04.GlobFolds': WHATEVER THE INPUT: true; the input reads as it did. -/
def globFoldsSpec : ChangeSpec := { name := "globFolds", fn := fun _ => fun
  | [d1, d2, d3, d4] => { results := [.lit (.bool true)], args := [d1, d2, d3, d4] }
  | _ => none }
def globFoldsRow : OpenClaim := { program := "ytgplnlknejbglaadoor", sum := "3ba16aaf3d2b1016d53996e190789c0517aaf3c04de42b1334fe22f50f02671a", func := "rollcall/rollcalllaw04.GlobFolds", spec := "globFolds", inPlace := ["internal/bytealg.IndexByteString", "internal/bytealg.IndexString", "internal/abi.NoEscape", "internal/bytealg.CountString", "internal/bytealg.MakeNoZero"], named := ["internal/bytealg.MaxLen", "unicode/utf8.first", "unicode/utf8.acceptRanges"], apart := false, laid := [("unicode/utf8.acceptRanges", laid_unicode_utf8_acceptRanges), ("unicode/utf8.first", laid_unicode_utf8_first)] }
def GlobFoldsSaid : Prop := globFoldsRow.holds Tryd.pinned (OpenSpec.ofChange globFoldsSpec)

/-- ITS FALSE NEIGHBOUR: 'it returns false'. Refute it at one input. -/
def globFoldsWrong : ChangeSpec := { name := "globFolds", fn := fun _ => fun
  | [d1, d2, d3, d4] => { results := [.lit (.bool false)], args := [d1, d2, d3, d4] }
  | _ => none }
def GlobFoldsWrongFalsely : Prop := globFoldsRow.holds Tryd.pinned (OpenSpec.ofChange globFoldsWrong)

/- THE SECOND FORM. 'bulk': how many values and letters a reading holds, each counted each time it is reached (what is shared counts as often as it is met; a slice's spare places count too). A statement '..UptoSaid' is the law's where the arguments, and the package variables that the reading takes, are together of bulk at most 1048576: NARROWER than '..Said'. Prove '..Said' where nothing that the law and all that it calls make is longer than what came in: it says more and counts as full. Else prove '..UptoSaid'. A law counts once. -/
mutual
def uptoBulk {H : Type} : DataW H → Nat
  | .lit (.string bytes) => bytes.length + 1
  | .lit _ => 1
  | .nil => 1
  | .ptr d => uptoBulk d + 1
  | .slice elems spare => uptoBulkAll elems + uptoBulkAll spare + 1
  | .agg parts => uptoBulkAll parts + 1
  | .iface _ d => uptoBulk d + 1
  | .map entries => uptoBulkEntries entries + 1
  | .held _ => 1
def uptoBulkAll {H : Type} : List (DataW H) → Nat
  | [] => 0
  | d :: r => uptoBulk d + uptoBulkAll r
def uptoBulkEntries {H : Type} : List (Lit × DataW H) → Nat
  | [] => 0
  | x :: r => uptoBulkEntry x + uptoBulkEntries r
def uptoBulkEntry {H : Type} : Lit × DataW H → Nat
  | (.string bytes, d) => bytes.length + uptoBulk d + 1
  | (_, d) => uptoBulk d + 1
 end
def uptoSmall : (H : Type) → List (DataW H) → Bool := fun _ ds => decide (uptoBulkAll ds ≤ 1048576)
def OpenSpec.upto (s : _root_.Go.ChangeSpec) : _root_.Go.OpenSpec := { _root_.Go.OpenSpec.ofChange s with cond := some uptoSmall }

/-- 'rollcalllaw04.GlobHits', WHERE WHAT IT READS IS OF BULK AT MOST 1048576: true; the input reads as it did. -/
def globHitsUptoRow : OpenClaim := { program := "ytgplnlknejbglaadoor", sum := "3ba16aaf3d2b1016d53996e190789c0517aaf3c04de42b1334fe22f50f02671a", func := "rollcall/rollcalllaw04.GlobHits", spec := "globHits", inPlace := ["internal/bytealg.IndexByteString", "internal/bytealg.IndexString", "internal/abi.NoEscape", "internal/bytealg.CountString", "internal/bytealg.MakeNoZero"], named := ["internal/bytealg.MaxLen", "unicode/utf8.first", "unicode/utf8.acceptRanges"], apart := false, laid := [("unicode/utf8.acceptRanges", laid_unicode_utf8_acceptRanges), ("unicode/utf8.first", laid_unicode_utf8_first)], narrowed := true }
def GlobHitsUptoSaid : Prop := globHitsUptoRow.holds Tryd.pinned (OpenSpec.upto globHitsSpec)

/-- 'rollcalllaw04.GlobMatches', WHERE WHAT IT READS IS OF BULK AT MOST 1048576: true; the input reads as it did. -/
def globMatchesUptoRow : OpenClaim := { program := "ytgplnlknejbglaadoor", sum := "3ba16aaf3d2b1016d53996e190789c0517aaf3c04de42b1334fe22f50f02671a", func := "rollcall/rollcalllaw04.GlobMatches", spec := "globMatches", inPlace := ["internal/bytealg.IndexByteString", "internal/bytealg.IndexString", "internal/abi.NoEscape", "internal/bytealg.CountString", "internal/bytealg.MakeNoZero"], named := ["internal/bytealg.MaxLen", "unicode/utf8.first", "unicode/utf8.acceptRanges"], apart := false, laid := [("unicode/utf8.acceptRanges", laid_unicode_utf8_acceptRanges), ("unicode/utf8.first", laid_unicode_utf8_first)], narrowed := true }
def GlobMatchesUptoSaid : Prop := globMatchesUptoRow.holds Tryd.pinned (OpenSpec.upto globMatchesSpec)

/-- 'rollcalllaw04.GlobCompletes', WHERE WHAT IT READS IS OF BULK AT MOST 1048576: true; the input reads as it did. -/
def globCompletesUptoRow : OpenClaim := { program := "ytgplnlknejbglaadoor", sum := "3ba16aaf3d2b1016d53996e190789c0517aaf3c04de42b1334fe22f50f02671a", func := "rollcall/rollcalllaw04.GlobCompletes", spec := "globCompletes", inPlace := ["internal/bytealg.IndexByteString", "internal/bytealg.IndexString", "internal/abi.NoEscape", "internal/bytealg.CountString", "internal/bytealg.MakeNoZero"], named := ["internal/bytealg.MaxLen", "unicode/utf8.first", "unicode/utf8.acceptRanges"], apart := false, laid := [("unicode/utf8.acceptRanges", laid_unicode_utf8_acceptRanges), ("unicode/utf8.first", laid_unicode_utf8_first)], narrowed := true }
def GlobCompletesUptoSaid : Prop := globCompletesUptoRow.holds Tryd.pinned (OpenSpec.upto globCompletesSpec)

/-- 'rollcalllaw04.GlobShorts', WHERE WHAT IT READS IS OF BULK AT MOST 1048576: true; the input reads as it did. -/
def globShortsUptoRow : OpenClaim := { program := "ytgplnlknejbglaadoor", sum := "3ba16aaf3d2b1016d53996e190789c0517aaf3c04de42b1334fe22f50f02671a", func := "rollcall/rollcalllaw04.GlobShorts", spec := "globShorts", inPlace := ["internal/bytealg.IndexByteString", "internal/bytealg.IndexString", "internal/abi.NoEscape", "internal/bytealg.CountString", "internal/bytealg.MakeNoZero"], named := ["internal/bytealg.MaxLen", "unicode/utf8.first", "unicode/utf8.acceptRanges"], apart := false, laid := [("unicode/utf8.acceptRanges", laid_unicode_utf8_acceptRanges), ("unicode/utf8.first", laid_unicode_utf8_first)], narrowed := true }
def GlobShortsUptoSaid : Prop := globShortsUptoRow.holds Tryd.pinned (OpenSpec.upto globShortsSpec)

/-- 'rollcalllaw04.GlobParts', WHERE WHAT IT READS IS OF BULK AT MOST 1048576: true; the input reads as it did. -/
def globPartsUptoRow : OpenClaim := { program := "ytgplnlknejbglaadoor", sum := "3ba16aaf3d2b1016d53996e190789c0517aaf3c04de42b1334fe22f50f02671a", func := "rollcall/rollcalllaw04.GlobParts", spec := "globParts", inPlace := ["internal/bytealg.IndexByteString", "internal/bytealg.IndexString", "internal/abi.NoEscape", "internal/bytealg.CountString", "internal/bytealg.MakeNoZero"], named := ["internal/bytealg.MaxLen", "unicode/utf8.first", "unicode/utf8.acceptRanges"], apart := false, laid := [("unicode/utf8.acceptRanges", laid_unicode_utf8_acceptRanges), ("unicode/utf8.first", laid_unicode_utf8_first)], narrowed := true }
def GlobPartsUptoSaid : Prop := globPartsUptoRow.holds Tryd.pinned (OpenSpec.upto globPartsSpec)

/-- 'rollcalllaw04.GlobFolds', WHERE WHAT IT READS IS OF BULK AT MOST 1048576: true; the input reads as it did. -/
def globFoldsUptoRow : OpenClaim := { program := "ytgplnlknejbglaadoor", sum := "3ba16aaf3d2b1016d53996e190789c0517aaf3c04de42b1334fe22f50f02671a", func := "rollcall/rollcalllaw04.GlobFolds", spec := "globFolds", inPlace := ["internal/bytealg.IndexByteString", "internal/bytealg.IndexString", "internal/abi.NoEscape", "internal/bytealg.CountString", "internal/bytealg.MakeNoZero"], named := ["internal/bytealg.MaxLen", "unicode/utf8.first", "unicode/utf8.acceptRanges"], apart := false, laid := [("unicode/utf8.acceptRanges", laid_unicode_utf8_acceptRanges), ("unicode/utf8.first", laid_unicode_utf8_first)], narrowed := true }
def GlobFoldsUptoSaid : Prop := globFoldsUptoRow.holds Tryd.pinned (OpenSpec.upto globFoldsSpec)

end Rows
end Go.Proofs.YtgplnlknejbglaaDoor

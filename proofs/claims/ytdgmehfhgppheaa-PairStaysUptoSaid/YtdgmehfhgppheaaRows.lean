/-
  No cell of these rows narrows 'for every input' (looked for: loops, veiled, ifaces, maps, wideKeys, modest, calm, conditions, laid).
  DERIVED. THE GIVEN ROWS OF THIS SEAT. 3 by the template 'for every input the law returns true; each argument reads behind the call as it read before'; 0 by the template 'total and deterministic' (their statements: YtdgmehfhgppheaaTotals.lean).
  GIVEN WITH THE SEED: the statements are not yours to turn. If you find one false, say at which input.
  Laid BY PROGRAM, IN A SANDBOX (cutbox-rows.mjs): the forced cells as the released guide's own fill.sh prints them over the translation 6cdd039fa3e5aad5… (all of the seat's roots in one cut). By AI agents, Wed Nov 11 2026. No macro, syntax, notation, axiom, sorry.
-/
import Derived.Test.YtdgmehfhgppheaaChecked
import GoSem.Claim
import GoSem.ClaimJoined
import GoSem.ClaimMapViews
import Derived.JoinedTies
import Derived.KernelRfl
namespace Go.Proofs.Ytdgmehfhgppheaa
/- THE CELL 'sum', in the pinned program and in every row, IS THE sha256 OF THE DUMP (.gsa) THAT YtdgmehfhgppheaaProg.lean LOADS. Nothing in Lean hashes anything: it is a label: what it is worth is what the hold of that sum in a sandbox is worth. -/
noncomputable def Try.pinned : Pinned := { name := "ytdgmehfhgppheaa", sum := "6cdd039fa3e5aad5aa32f0a2fa694b30cb8335614332e02e8c50b9bd8c030ff1", checked := Try.checked }
namespace Rows
def none {H : Type} : Left H := { results := [], args := [] }

/-- 'rollcalllaw11.PairPlays': WHATEVER THE INPUT: true; the input reads as it did. -/
def pairPlaysSpec : ChangeSpec := { name := "pairPlays", fn := fun _ => fun
  | [d1, d2] => { results := [.lit (.bool true)], args := [d1, d2] }
  | _ => none }
def pairPlaysRow : OpenClaim := { program := "ytdgmehfhgppheaa", sum := "6cdd039fa3e5aad5aa32f0a2fa694b30cb8335614332e02e8c50b9bd8c030ff1", func := "rollcall/rollcalllaw11.PairPlays", spec := "pairPlays", inPlace := ["slices.overlaps[string]", "slices.overlaps[int]"], unfollowed := true, recurses := true, apart := false }
def PairPlaysSaid : Prop := pairPlaysRow.holds Try.pinned (OpenSpec.ofChange pairPlaysSpec)

/-- ITS FALSE NEIGHBOUR: 'it returns false'. Refute it at one input. -/
def pairPlaysWrong : ChangeSpec := { name := "pairPlays", fn := fun _ => fun
  | [d1, d2] => { results := [.lit (.bool false)], args := [d1, d2] }
  | _ => none }
def PairPlaysWrongFalsely : Prop := pairPlaysRow.holds Try.pinned (OpenSpec.ofChange pairPlaysWrong)

/-- 'rollcalllaw11.PairBoth': WHATEVER THE INPUT: true; the input reads as it did. -/
def pairBothSpec : ChangeSpec := { name := "pairBoth", fn := fun _ => fun
  | [d1, d2, d3, d4] => { results := [.lit (.bool true)], args := [d1, d2, d3, d4] }
  | _ => none }
def pairBothRow : OpenClaim := { program := "ytdgmehfhgppheaa", sum := "6cdd039fa3e5aad5aa32f0a2fa694b30cb8335614332e02e8c50b9bd8c030ff1", func := "rollcall/rollcalllaw11.PairBoth", spec := "pairBoth", inPlace := ["slices.overlaps[string]", "slices.overlaps[int]"], unfollowed := true, recurses := true, apart := false }
def PairBothSaid : Prop := pairBothRow.holds Try.pinned (OpenSpec.ofChange pairBothSpec)

/-- ITS FALSE NEIGHBOUR: 'it returns false'. Refute it at one input. -/
def pairBothWrong : ChangeSpec := { name := "pairBoth", fn := fun _ => fun
  | [d1, d2, d3, d4] => { results := [.lit (.bool false)], args := [d1, d2, d3, d4] }
  | _ => none }
def PairBothWrongFalsely : Prop := pairBothRow.holds Try.pinned (OpenSpec.ofChange pairBothWrong)

/-- 'rollcalllaw11.PairStays': WHATEVER THE INPUT: true; the input reads as it did. -/
def pairStaysSpec : ChangeSpec := { name := "pairStays", fn := fun _ => fun
  | [d] => { results := [.lit (.bool true)], args := [d] }
  | _ => none }
def pairStaysRow : OpenClaim := { program := "ytdgmehfhgppheaa", sum := "6cdd039fa3e5aad5aa32f0a2fa694b30cb8335614332e02e8c50b9bd8c030ff1", func := "rollcall/rollcalllaw11.PairStays", spec := "pairStays", inPlace := ["slices.overlaps[string]", "slices.overlaps[int]"], unfollowed := true, recurses := true, apart := false }
def PairStaysSaid : Prop := pairStaysRow.holds Try.pinned (OpenSpec.ofChange pairStaysSpec)

/-- ITS FALSE NEIGHBOUR: 'it returns false'. Refute it at one input. -/
def pairStaysWrong : ChangeSpec := { name := "pairStays", fn := fun _ => fun
  | [d] => { results := [.lit (.bool false)], args := [d] }
  | _ => none }
def PairStaysWrongFalsely : Prop := pairStaysRow.holds Try.pinned (OpenSpec.ofChange pairStaysWrong)

/- THE SECOND FORM. 'bulk': how many values and letters a reading holds, each counted each time it is reached (what is shared counts as often as it is met; a slice's spare places count too). A statement '..UptoSaid' is the law's where the arguments, and the package variables that the reading takes, are together of bulk at most 1048576: NARROWER than '..Said'. Prove '..Said' where nothing that the law and all that it calls make is longer than what came in: it says more and counts as full. Else prove '..UptoSaid'. A law counts once. -/
mutual
def uptoBulk {H : Type} : DataW H → Nat
  | .lit (.string bytes) => bytes.length + 1
  | .lit _ => 1
  | .nil => 1
  | .ptr d => uptoBulk d + 1
  | .slice elems spare => uptoBulkAll elems + uptoBulkAll spare + 1
  | .agg parts => uptoBulkAll parts + 1
  | .iface _ d => uptoBulk d + 1
  | .map entries => uptoBulkEntries entries + 1
  | .held _ => 1
def uptoBulkAll {H : Type} : List (DataW H) → Nat
  | [] => 0
  | d :: r => uptoBulk d + uptoBulkAll r
def uptoBulkEntries {H : Type} : List (Lit × DataW H) → Nat
  | [] => 0
  | x :: r => uptoBulkEntry x + uptoBulkEntries r
def uptoBulkEntry {H : Type} : Lit × DataW H → Nat
  | (.string bytes, d) => bytes.length + uptoBulk d + 1
  | (_, d) => uptoBulk d + 1
 end
def uptoSmall : (H : Type) → List (DataW H) → Bool := fun _ ds => decide (uptoBulkAll ds ≤ 1048576)
def OpenSpec.upto (s : _root_.Go.ChangeSpec) : _root_.Go.OpenSpec := { _root_.Go.OpenSpec.ofChange s with cond := some uptoSmall }

/-- 'rollcalllaw11.PairPlays', WHERE WHAT IT READS IS OF BULK AT MOST 1048576: true; the input reads as it did. -/
def pairPlaysUptoRow : OpenClaim := { program := "ytdgmehfhgppheaa", sum := "6cdd039fa3e5aad5aa32f0a2fa694b30cb8335614332e02e8c50b9bd8c030ff1", func := "rollcall/rollcalllaw11.PairPlays", spec := "pairPlays", inPlace := ["slices.overlaps[string]", "slices.overlaps[int]"], unfollowed := true, recurses := true, apart := false, narrowed := true }
def PairPlaysUptoSaid : Prop := pairPlaysUptoRow.holds Try.pinned (OpenSpec.upto pairPlaysSpec)

/-- 'rollcalllaw11.PairBoth', WHERE WHAT IT READS IS OF BULK AT MOST 1048576: true; the input reads as it did. -/
def pairBothUptoRow : OpenClaim := { program := "ytdgmehfhgppheaa", sum := "6cdd039fa3e5aad5aa32f0a2fa694b30cb8335614332e02e8c50b9bd8c030ff1", func := "rollcall/rollcalllaw11.PairBoth", spec := "pairBoth", inPlace := ["slices.overlaps[string]", "slices.overlaps[int]"], unfollowed := true, recurses := true, apart := false, narrowed := true }
def PairBothUptoSaid : Prop := pairBothUptoRow.holds Try.pinned (OpenSpec.upto pairBothSpec)

/-- 'rollcalllaw11.PairStays', WHERE WHAT IT READS IS OF BULK AT MOST 1048576: true; the input reads as it did. -/
def pairStaysUptoRow : OpenClaim := { program := "ytdgmehfhgppheaa", sum := "6cdd039fa3e5aad5aa32f0a2fa694b30cb8335614332e02e8c50b9bd8c030ff1", func := "rollcall/rollcalllaw11.PairStays", spec := "pairStays", inPlace := ["slices.overlaps[string]", "slices.overlaps[int]"], unfollowed := true, recurses := true, apart := false, narrowed := true }
def PairStaysUptoSaid : Prop := pairStaysUptoRow.holds Try.pinned (OpenSpec.upto pairStaysSpec)

end Rows
end Go.Proofs.Ytdgmehfhgppheaa

/-
  No cell of these rows narrows 'for every input' (looked for: loops, veiled, ifaces, maps, wideKeys, modest, calm, conditions, laid).
  DERIVED. THE GIVEN ROWS OF THIS SEAT. 6 by the template 'for every input the law returns true; each argument reads behind the call as it read before'; 0 by the template 'total and deterministic' (their statements: YtigobginglaieaaTotals.lean).
  GIVEN WITH THE SEED: the statements are not yours to turn. If you find one false, say at which input.
  Laid BY PROGRAM, IN A SANDBOX (cutbox-rows.mjs): the forced cells as the released guide's own fill.sh prints them over the translation df713ba33ab55920… (all of the seat's roots in one cut). By AI agents, Wed Nov 11 2026. No macro, syntax, notation, axiom, sorry.
-/
import Derived.Test.YtigobginglaieaaChecked
import GoSem.Claim
import GoSem.ClaimJoined
import GoSem.ClaimMapViews
import Derived.JoinedTies
import Derived.KernelRfl
namespace Go.Proofs.Ytigobginglaieaa
/- THE CELL 'sum', in the pinned program and in every row, IS THE sha256 OF THE DUMP (.gsa) THAT YtigobginglaieaaProg.lean LOADS. Nothing in Lean hashes anything: it is a label: what it is worth is what the hold of that sum in a sandbox is worth. -/
noncomputable def Try.pinned : Pinned := { name := "ytigobginglaieaa", sum := "df713ba33ab559203bb78067aba01bb7a60a114da2662314d5637491d7959e86", checked := Try.checked }
namespace Rows
def none {H : Type} : Left H := { results := [], args := [] }

/-- 'rollcalllaw01.FoldTexts': WHATEVER THE INPUT: true; the input reads as it did. -/
def foldTextsSpec : ChangeSpec := { name := "foldTexts", fn := fun _ => fun
  | [d] => { results := [.lit (.bool true)], args := [d] }
  | _ => none }
def foldTextsRow : OpenClaim := { program := "ytigobginglaieaa", sum := "df713ba33ab559203bb78067aba01bb7a60a114da2662314d5637491d7959e86", func := "rollcall/rollcalllaw01.FoldTexts", spec := "foldTexts", apart := false }
def FoldTextsSaid : Prop := foldTextsRow.holds Try.pinned (OpenSpec.ofChange foldTextsSpec)

/-- ITS FALSE NEIGHBOUR: 'it returns false'. Refute it at one input. -/
def foldTextsWrong : ChangeSpec := { name := "foldTexts", fn := fun _ => fun
  | [d] => { results := [.lit (.bool false)], args := [d] }
  | _ => none }
def FoldTextsWrongFalsely : Prop := foldTextsRow.holds Try.pinned (OpenSpec.ofChange foldTextsWrong)

/-- 'rollcalllaw01.FoldBytes': WHATEVER THE INPUT: true; the input reads as it did. -/
def foldBytesSpec : ChangeSpec := { name := "foldBytes", fn := fun _ => fun
  | [d] => { results := [.lit (.bool true)], args := [d] }
  | _ => none }
def foldBytesRow : OpenClaim := { program := "ytigobginglaieaa", sum := "df713ba33ab559203bb78067aba01bb7a60a114da2662314d5637491d7959e86", func := "rollcall/rollcalllaw01.FoldBytes", spec := "foldBytes", apart := false }
def FoldBytesSaid : Prop := foldBytesRow.holds Try.pinned (OpenSpec.ofChange foldBytesSpec)

/-- ITS FALSE NEIGHBOUR: 'it returns false'. Refute it at one input. -/
def foldBytesWrong : ChangeSpec := { name := "foldBytes", fn := fun _ => fun
  | [d] => { results := [.lit (.bool false)], args := [d] }
  | _ => none }
def FoldBytesWrongFalsely : Prop := foldBytesRow.holds Try.pinned (OpenSpec.ofChange foldBytesWrong)

/-- 'rollcalllaw01.FoldHalves': WHATEVER THE INPUT: true; the input reads as it did. -/
def foldHalvesSpec : ChangeSpec := { name := "foldHalves", fn := fun _ => fun
  | [d1, d2, d3, d4] => { results := [.lit (.bool true)], args := [d1, d2, d3, d4] }
  | _ => none }
def foldHalvesRow : OpenClaim := { program := "ytigobginglaieaa", sum := "df713ba33ab559203bb78067aba01bb7a60a114da2662314d5637491d7959e86", func := "rollcall/rollcalllaw01.FoldHalves", spec := "foldHalves", apart := false }
def FoldHalvesSaid : Prop := foldHalvesRow.holds Try.pinned (OpenSpec.ofChange foldHalvesSpec)

/-- ITS FALSE NEIGHBOUR: 'it returns false'. Refute it at one input. -/
def foldHalvesWrong : ChangeSpec := { name := "foldHalves", fn := fun _ => fun
  | [d1, d2, d3, d4] => { results := [.lit (.bool false)], args := [d1, d2, d3, d4] }
  | _ => none }
def FoldHalvesWrongFalsely : Prop := foldHalvesRow.holds Try.pinned (OpenSpec.ofChange foldHalvesWrong)

/-- 'rollcalllaw01.FoldCompares': WHATEVER THE INPUT: true; the input reads as it did. -/
def foldComparesSpec : ChangeSpec := { name := "foldCompares", fn := fun _ => fun
  | [d1, d2] => { results := [.lit (.bool true)], args := [d1, d2] }
  | _ => none }
def foldComparesRow : OpenClaim := { program := "ytigobginglaieaa", sum := "df713ba33ab559203bb78067aba01bb7a60a114da2662314d5637491d7959e86", func := "rollcall/rollcalllaw01.FoldCompares", spec := "foldCompares", apart := false }
def FoldComparesSaid : Prop := foldComparesRow.holds Try.pinned (OpenSpec.ofChange foldComparesSpec)

/-- ITS FALSE NEIGHBOUR: 'it returns false'. Refute it at one input. -/
def foldComparesWrong : ChangeSpec := { name := "foldCompares", fn := fun _ => fun
  | [d1, d2] => { results := [.lit (.bool false)], args := [d1, d2] }
  | _ => none }
def FoldComparesWrongFalsely : Prop := foldComparesRow.holds Try.pinned (OpenSpec.ofChange foldComparesWrong)

/-- 'rollcalllaw01.FoldOrder': WHATEVER THE INPUT: true; the input reads as it did. -/
def foldOrderSpec : ChangeSpec := { name := "foldOrder", fn := fun _ => fun
  | [d1, d2, d3] => { results := [.lit (.bool true)], args := [d1, d2, d3] }
  | _ => none }
def foldOrderRow : OpenClaim := { program := "ytigobginglaieaa", sum := "df713ba33ab559203bb78067aba01bb7a60a114da2662314d5637491d7959e86", func := "rollcall/rollcalllaw01.FoldOrder", spec := "foldOrder", apart := false }
def FoldOrderSaid : Prop := foldOrderRow.holds Try.pinned (OpenSpec.ofChange foldOrderSpec)

/-- ITS FALSE NEIGHBOUR: 'it returns false'. Refute it at one input. -/
def foldOrderWrong : ChangeSpec := { name := "foldOrder", fn := fun _ => fun
  | [d1, d2, d3] => { results := [.lit (.bool false)], args := [d1, d2, d3] }
  | _ => none }
def FoldOrderWrongFalsely : Prop := foldOrderRow.holds Try.pinned (OpenSpec.ofChange foldOrderWrong)

/-- 'rollcalllaw01.FoldRuns': WHATEVER THE INPUT: true; the input reads as it did. -/
def foldRunsSpec : ChangeSpec := { name := "foldRuns", fn := fun _ => fun
  | [d] => { results := [.lit (.bool true)], args := [d] }
  | _ => none }
def foldRunsRow : OpenClaim := { program := "ytigobginglaieaa", sum := "df713ba33ab559203bb78067aba01bb7a60a114da2662314d5637491d7959e86", func := "rollcall/rollcalllaw01.FoldRuns", spec := "foldRuns", unfollowed := true, recurses := true, apart := false }
def FoldRunsSaid : Prop := foldRunsRow.holds Try.pinned (OpenSpec.ofChange foldRunsSpec)

/-- ITS FALSE NEIGHBOUR: 'it returns false'. Refute it at one input. -/
def foldRunsWrong : ChangeSpec := { name := "foldRuns", fn := fun _ => fun
  | [d] => { results := [.lit (.bool false)], args := [d] }
  | _ => none }
def FoldRunsWrongFalsely : Prop := foldRunsRow.holds Try.pinned (OpenSpec.ofChange foldRunsWrong)

/- THE SECOND FORM. 'bulk': how many values and letters a reading holds, each counted each time it is reached (what is shared counts as often as it is met; a slice's spare places count too). A statement '..UptoSaid' is the law's where the arguments, and the package variables that the reading takes, are together of bulk at most 1048576: NARROWER than '..Said'. Prove '..Said' where nothing that the law and all that it calls make is longer than what came in: it says more and counts as full. Else prove '..UptoSaid'. A law counts once. -/
mutual
def uptoBulk {H : Type} : DataW H → Nat
  | .lit (.string bytes) => bytes.length + 1
  | .lit _ => 1
  | .nil => 1
  | .ptr d => uptoBulk d + 1
  | .slice elems spare => uptoBulkAll elems + uptoBulkAll spare + 1
  | .agg parts => uptoBulkAll parts + 1
  | .iface _ d => uptoBulk d + 1
  | .map entries => uptoBulkEntries entries + 1
  | .held _ => 1
def uptoBulkAll {H : Type} : List (DataW H) → Nat
  | [] => 0
  | d :: r => uptoBulk d + uptoBulkAll r
def uptoBulkEntries {H : Type} : List (Lit × DataW H) → Nat
  | [] => 0
  | x :: r => uptoBulkEntry x + uptoBulkEntries r
def uptoBulkEntry {H : Type} : Lit × DataW H → Nat
  | (.string bytes, d) => bytes.length + uptoBulk d + 1
  | (_, d) => uptoBulk d + 1
 end
def uptoSmall : (H : Type) → List (DataW H) → Bool := fun _ ds => decide (uptoBulkAll ds ≤ 1048576)
def OpenSpec.upto (s : _root_.Go.ChangeSpec) : _root_.Go.OpenSpec := { _root_.Go.OpenSpec.ofChange s with cond := some uptoSmall }

/-- 'rollcalllaw01.FoldTexts', WHERE WHAT IT READS IS OF BULK AT MOST 1048576: true; the input reads as it did. -/
def foldTextsUptoRow : OpenClaim := { program := "ytigobginglaieaa", sum := "df713ba33ab559203bb78067aba01bb7a60a114da2662314d5637491d7959e86", func := "rollcall/rollcalllaw01.FoldTexts", spec := "foldTexts", apart := false, narrowed := true }
def FoldTextsUptoSaid : Prop := foldTextsUptoRow.holds Try.pinned (OpenSpec.upto foldTextsSpec)

/-- 'rollcalllaw01.FoldBytes', WHERE WHAT IT READS IS OF BULK AT MOST 1048576: true; the input reads as it did. -/
def foldBytesUptoRow : OpenClaim := { program := "ytigobginglaieaa", sum := "df713ba33ab559203bb78067aba01bb7a60a114da2662314d5637491d7959e86", func := "rollcall/rollcalllaw01.FoldBytes", spec := "foldBytes", apart := false, narrowed := true }
def FoldBytesUptoSaid : Prop := foldBytesUptoRow.holds Try.pinned (OpenSpec.upto foldBytesSpec)

/-- 'rollcalllaw01.FoldHalves', WHERE WHAT IT READS IS OF BULK AT MOST 1048576: true; the input reads as it did. -/
def foldHalvesUptoRow : OpenClaim := { program := "ytigobginglaieaa", sum := "df713ba33ab559203bb78067aba01bb7a60a114da2662314d5637491d7959e86", func := "rollcall/rollcalllaw01.FoldHalves", spec := "foldHalves", apart := false, narrowed := true }
def FoldHalvesUptoSaid : Prop := foldHalvesUptoRow.holds Try.pinned (OpenSpec.upto foldHalvesSpec)

/-- 'rollcalllaw01.FoldCompares', WHERE WHAT IT READS IS OF BULK AT MOST 1048576: true; the input reads as it did. -/
def foldComparesUptoRow : OpenClaim := { program := "ytigobginglaieaa", sum := "df713ba33ab559203bb78067aba01bb7a60a114da2662314d5637491d7959e86", func := "rollcall/rollcalllaw01.FoldCompares", spec := "foldCompares", apart := false, narrowed := true }
def FoldComparesUptoSaid : Prop := foldComparesUptoRow.holds Try.pinned (OpenSpec.upto foldComparesSpec)

/-- 'rollcalllaw01.FoldOrder', WHERE WHAT IT READS IS OF BULK AT MOST 1048576: true; the input reads as it did. -/
def foldOrderUptoRow : OpenClaim := { program := "ytigobginglaieaa", sum := "df713ba33ab559203bb78067aba01bb7a60a114da2662314d5637491d7959e86", func := "rollcall/rollcalllaw01.FoldOrder", spec := "foldOrder", apart := false, narrowed := true }
def FoldOrderUptoSaid : Prop := foldOrderUptoRow.holds Try.pinned (OpenSpec.upto foldOrderSpec)

/-- 'rollcalllaw01.FoldRuns', WHERE WHAT IT READS IS OF BULK AT MOST 1048576: true; the input reads as it did. -/
def foldRunsUptoRow : OpenClaim := { program := "ytigobginglaieaa", sum := "df713ba33ab559203bb78067aba01bb7a60a114da2662314d5637491d7959e86", func := "rollcall/rollcalllaw01.FoldRuns", spec := "foldRuns", unfollowed := true, recurses := true, apart := false, narrowed := true }
def FoldRunsUptoSaid : Prop := foldRunsUptoRow.holds Try.pinned (OpenSpec.upto foldRunsSpec)

end Rows
end Go.Proofs.Ytigobginglaieaa

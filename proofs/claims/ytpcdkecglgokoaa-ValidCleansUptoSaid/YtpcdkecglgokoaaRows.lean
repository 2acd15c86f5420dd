/-
  No cell of these rows narrows 'for every input' (looked for: loops, veiled, ifaces, maps, wideKeys, modest, calm, conditions, laid).
  DERIVED. THE GIVEN ROWS OF THIS SEAT. 4 by the template 'for every input the law returns true; each argument reads behind the call as it read before'; 0 by the template 'total and deterministic' (their statements: YtpcdkecglgokoaaTotals.lean).
  GIVEN WITH THE SEED: the statements are not yours to turn. If you find one false, say at which input.
  Laid BY PROGRAM, IN A SANDBOX (cutbox-rows.mjs): the forced cells as the released guide's own fill.sh prints them over the translation f4c1404241043ca7… (all of the seat's roots in one cut). By AI agents, Wed Nov 11 2026. No macro, syntax, notation, axiom, sorry.
-/
import Derived.Test.YtpcdkecglgokoaaChecked
import GoSem.Claim
import GoSem.ClaimJoined
import GoSem.ClaimMapViews
import Derived.JoinedTies
import Derived.KernelRfl
namespace Go.Proofs.Ytpcdkecglgokoaa
/- THE CELL 'sum', in the pinned program and in every row, IS THE sha256 OF THE DUMP (.gsa) THAT YtpcdkecglgokoaaProg.lean LOADS. Nothing in Lean hashes anything: it is a label: what it is worth is what the hold of that sum in a sandbox is worth. -/
noncomputable def Try.pinned : Pinned := { name := "ytpcdkecglgokoaa", sum := "f4c1404241043ca73d41a603cff0b5025e012f29ec1aef0bbe2fa98e315a25e7", checked := Try.checked }
namespace Rows
def none {H : Type} : Left H := { results := [], args := [] }

/-- 'rollcalllaw03.ValidAlike': WHATEVER THE INPUT: true; the input reads as it did. -/
def validAlikeSpec : ChangeSpec := { name := "validAlike", fn := fun _ => fun
  | [d1, d2] => { results := [.lit (.bool true)], args := [d1, d2] }
  | _ => none }
def validAlikeRow : OpenClaim := { program := "ytpcdkecglgokoaa", sum := "f4c1404241043ca73d41a603cff0b5025e012f29ec1aef0bbe2fa98e315a25e7", func := "rollcall/rollcalllaw03.ValidAlike", spec := "validAlike", inPlace := ["internal/bytealg.IndexByteString"], apart := false }
def ValidAlikeSaid : Prop := validAlikeRow.holds Try.pinned (OpenSpec.ofChange validAlikeSpec)

/-- ITS FALSE NEIGHBOUR: 'it returns false'. Refute it at one input. -/
def validAlikeWrong : ChangeSpec := { name := "validAlike", fn := fun _ => fun
  | [d1, d2] => { results := [.lit (.bool false)], args := [d1, d2] }
  | _ => none }
def ValidAlikeWrongFalsely : Prop := validAlikeRow.holds Try.pinned (OpenSpec.ofChange validAlikeWrong)

/-- 'rollcalllaw03.ValidNames': WHATEVER THE INPUT: true; the input reads as it did. -/
def validNamesSpec : ChangeSpec := { name := "validNames", fn := fun _ => fun
  | [d] => { results := [.lit (.bool true)], args := [d] }
  | _ => none }
def validNamesRow : OpenClaim := { program := "ytpcdkecglgokoaa", sum := "f4c1404241043ca73d41a603cff0b5025e012f29ec1aef0bbe2fa98e315a25e7", func := "rollcall/rollcalllaw03.ValidNames", spec := "validNames", inPlace := ["internal/bytealg.IndexByteString"], apart := false }
def ValidNamesSaid : Prop := validNamesRow.holds Try.pinned (OpenSpec.ofChange validNamesSpec)

/-- ITS FALSE NEIGHBOUR: 'it returns false'. Refute it at one input. -/
def validNamesWrong : ChangeSpec := { name := "validNames", fn := fun _ => fun
  | [d] => { results := [.lit (.bool false)], args := [d] }
  | _ => none }
def ValidNamesWrongFalsely : Prop := validNamesRow.holds Try.pinned (OpenSpec.ofChange validNamesWrong)

/-- 'rollcalllaw03.ValidHosts': WHATEVER THE INPUT: true; the input reads as it did. -/
def validHostsSpec : ChangeSpec := { name := "validHosts", fn := fun _ => fun
  | [d] => { results := [.lit (.bool true)], args := [d] }
  | _ => none }
def validHostsRow : OpenClaim := { program := "ytpcdkecglgokoaa", sum := "f4c1404241043ca73d41a603cff0b5025e012f29ec1aef0bbe2fa98e315a25e7", func := "rollcall/rollcalllaw03.ValidHosts", spec := "validHosts", inPlace := ["internal/bytealg.IndexByteString"], apart := false }
def ValidHostsSaid : Prop := validHostsRow.holds Try.pinned (OpenSpec.ofChange validHostsSpec)

/-- ITS FALSE NEIGHBOUR: 'it returns false'. Refute it at one input. -/
def validHostsWrong : ChangeSpec := { name := "validHosts", fn := fun _ => fun
  | [d] => { results := [.lit (.bool false)], args := [d] }
  | _ => none }
def ValidHostsWrongFalsely : Prop := validHostsRow.holds Try.pinned (OpenSpec.ofChange validHostsWrong)

/-- 'rollcalllaw03.ValidCleans': WHATEVER THE INPUT: true; the input reads as it did. -/
def validCleansSpec : ChangeSpec := { name := "validCleans", fn := fun _ => fun
  | [d1, d2] => { results := [.lit (.bool true)], args := [d1, d2] }
  | _ => none }
def validCleansRow : OpenClaim := { program := "ytpcdkecglgokoaa", sum := "f4c1404241043ca73d41a603cff0b5025e012f29ec1aef0bbe2fa98e315a25e7", func := "rollcall/rollcalllaw03.ValidCleans", spec := "validCleans", inPlace := ["internal/bytealg.IndexByteString", "internal/abi.NoEscape"], apart := false }
def ValidCleansSaid : Prop := validCleansRow.holds Try.pinned (OpenSpec.ofChange validCleansSpec)

/-- ITS FALSE NEIGHBOUR: 'it returns false'. Refute it at one input. -/
def validCleansWrong : ChangeSpec := { name := "validCleans", fn := fun _ => fun
  | [d1, d2] => { results := [.lit (.bool false)], args := [d1, d2] }
  | _ => none }
def ValidCleansWrongFalsely : Prop := validCleansRow.holds Try.pinned (OpenSpec.ofChange validCleansWrong)

/- THE SECOND FORM. 'bulk': how many values and letters a reading holds, each counted each time it is reached (what is shared counts as often as it is met; a slice's spare places count too). A statement '..UptoSaid' is the law's where the arguments, and the package variables that the reading takes, are together of bulk at most 1048576: NARROWER than '..Said'. Prove '..Said' where nothing that the law and all that it calls make is longer than what came in: it says more and counts as full. Else prove '..UptoSaid'. A law counts once. -/
mutual
def uptoBulk {H : Type} : DataW H → Nat
  | .lit (.string bytes) => bytes.length + 1
  | .lit _ => 1
  | .nil => 1
  | .ptr d => uptoBulk d + 1
  | .slice elems spare => uptoBulkAll elems + uptoBulkAll spare + 1
  | .agg parts => uptoBulkAll parts + 1
  | .iface _ d => uptoBulk d + 1
  | .map entries => uptoBulkEntries entries + 1
  | .held _ => 1
def uptoBulkAll {H : Type} : List (DataW H) → Nat
  | [] => 0
  | d :: r => uptoBulk d + uptoBulkAll r
def uptoBulkEntries {H : Type} : List (Lit × DataW H) → Nat
  | [] => 0
  | x :: r => uptoBulkEntry x + uptoBulkEntries r
def uptoBulkEntry {H : Type} : Lit × DataW H → Nat
  | (.string bytes, d) => bytes.length + uptoBulk d + 1
  | (_, d) => uptoBulk d + 1
 end
def uptoSmall : (H : Type) → List (DataW H) → Bool := fun _ ds => decide (uptoBulkAll ds ≤ 1048576)
def OpenSpec.upto (s : _root_.Go.ChangeSpec) : _root_.Go.OpenSpec := { _root_.Go.OpenSpec.ofChange s with cond := some uptoSmall }

/-- 'rollcalllaw03.ValidAlike', WHERE WHAT IT READS IS OF BULK AT MOST 1048576: true; the input reads as it did. -/
def validAlikeUptoRow : OpenClaim := { program := "ytpcdkecglgokoaa", sum := "f4c1404241043ca73d41a603cff0b5025e012f29ec1aef0bbe2fa98e315a25e7", func := "rollcall/rollcalllaw03.ValidAlike", spec := "validAlike", inPlace := ["internal/bytealg.IndexByteString"], apart := false, narrowed := true }
def ValidAlikeUptoSaid : Prop := validAlikeUptoRow.holds Try.pinned (OpenSpec.upto validAlikeSpec)

/-- 'rollcalllaw03.ValidNames', WHERE WHAT IT READS IS OF BULK AT MOST 1048576: true; the input reads as it did. -/
def validNamesUptoRow : OpenClaim := { program := "ytpcdkecglgokoaa", sum := "f4c1404241043ca73d41a603cff0b5025e012f29ec1aef0bbe2fa98e315a25e7", func := "rollcall/rollcalllaw03.ValidNames", spec := "validNames", inPlace := ["internal/bytealg.IndexByteString"], apart := false, narrowed := true }
def ValidNamesUptoSaid : Prop := validNamesUptoRow.holds Try.pinned (OpenSpec.upto validNamesSpec)

/-- 'rollcalllaw03.ValidHosts', WHERE WHAT IT READS IS OF BULK AT MOST 1048576: true; the input reads as it did. -/
def validHostsUptoRow : OpenClaim := { program := "ytpcdkecglgokoaa", sum := "f4c1404241043ca73d41a603cff0b5025e012f29ec1aef0bbe2fa98e315a25e7", func := "rollcall/rollcalllaw03.ValidHosts", spec := "validHosts", inPlace := ["internal/bytealg.IndexByteString"], apart := false, narrowed := true }
def ValidHostsUptoSaid : Prop := validHostsUptoRow.holds Try.pinned (OpenSpec.upto validHostsSpec)

/-- 'rollcalllaw03.ValidCleans', WHERE WHAT IT READS IS OF BULK AT MOST 1048576: true; the input reads as it did. -/
def validCleansUptoRow : OpenClaim := { program := "ytpcdkecglgokoaa", sum := "f4c1404241043ca73d41a603cff0b5025e012f29ec1aef0bbe2fa98e315a25e7", func := "rollcall/rollcalllaw03.ValidCleans", spec := "validCleans", inPlace := ["internal/bytealg.IndexByteString", "internal/abi.NoEscape"], apart := false, narrowed := true }
def ValidCleansUptoSaid : Prop := validCleansUptoRow.holds Try.pinned (OpenSpec.upto validCleansSpec)

end Rows
end Go.Proofs.Ytpcdkecglgokoaa

/-
  No cell of these rows narrows 'for every input' (looked for: loops, veiled, ifaces, maps, wideKeys, modest, calm, conditions, laid).
  DERIVED. THE GIVEN ROWS OF THIS SEAT. 4 by the template 'for every input the law returns true; each argument reads behind the call as it read before'; 0 by the template 'total and deterministic' (their statements: YtpjabhpfaahgoaaTotals.lean).
  GIVEN WITH THE SEED: the statements are not yours to turn. If you find one false, say at which input.
  Laid BY PROGRAM, IN A SANDBOX (cutbox-rows.mjs): the forced cells as the released guide's own fill.sh prints them over the translation 7502218cb6f74b11… (all of the seat's roots in one cut). By AI agents, Wed Nov 11 2026. No macro, syntax, notation, axiom, sorry.
-/
import Derived.Test.YtpjabhpfaahgoaaChecked
import GoSem.Claim
import GoSem.ClaimJoined
import GoSem.ClaimMapViews
import Derived.JoinedTies
import Derived.KernelRfl
namespace Go.Proofs.Ytpjabhpfaahgoaa
/- THE CELL 'sum', in the pinned program and in every row, IS THE sha256 OF THE DUMP (.gsa) THAT YtpjabhpfaahgoaaProg.lean LOADS. Nothing in Lean hashes anything: it is a label: what it is worth is what the hold of that sum in a sandbox is worth. -/
noncomputable def Try.pinned : Pinned := { name := "ytpjabhpfaahgoaa", sum := "7502218cb6f74b110041a0ace83ec6707731f23c6902577e0d8c7f6b4be19444", checked := Try.checked }
namespace Rows
def none {H : Type} : Left H := { results := [], args := [] }

/-- 'rollcalllaw08.SendqWhole': WHATEVER THE INPUT: true; the input reads as it did. -/
def sendqWholeSpec : ChangeSpec := { name := "sendqWhole", fn := fun _ => fun
  | [d1, d2] => { results := [.lit (.bool true)], args := [d1, d2] }
  | _ => none }
def sendqWholeRow : OpenClaim := { program := "ytpjabhpfaahgoaa", sum := "7502218cb6f74b110041a0ace83ec6707731f23c6902577e0d8c7f6b4be19444", func := "rollcall/rollcalllaw08.SendqWhole", spec := "sendqWhole", inPlace := ["internal/bytealg.IndexByteString", "internal/bytealg.IndexString"], unfollowed := true, recurses := true, named := ["internal/bytealg.MaxLen"], apart := false }
def SendqWholeSaid : Prop := sendqWholeRow.holds Try.pinned (OpenSpec.ofChange sendqWholeSpec)

/-- ITS FALSE NEIGHBOUR: 'it returns false'. Refute it at one input. -/
def sendqWholeWrong : ChangeSpec := { name := "sendqWhole", fn := fun _ => fun
  | [d1, d2] => { results := [.lit (.bool false)], args := [d1, d2] }
  | _ => none }
def SendqWholeWrongFalsely : Prop := sendqWholeRow.holds Try.pinned (OpenSpec.ofChange sendqWholeWrong)

/-- 'rollcalllaw08.SendqPieces': WHATEVER THE INPUT: true; the input reads as it did. -/
def sendqPiecesSpec : ChangeSpec := { name := "sendqPieces", fn := fun _ => fun
  | [d1, d2] => { results := [.lit (.bool true)], args := [d1, d2] }
  | _ => none }
def sendqPiecesRow : OpenClaim := { program := "ytpjabhpfaahgoaa", sum := "7502218cb6f74b110041a0ace83ec6707731f23c6902577e0d8c7f6b4be19444", func := "rollcall/rollcalllaw08.SendqPieces", spec := "sendqPieces", inPlace := ["internal/bytealg.IndexByteString", "internal/bytealg.IndexString"], unfollowed := true, recurses := true, named := ["internal/bytealg.MaxLen"], apart := false }
def SendqPiecesSaid : Prop := sendqPiecesRow.holds Try.pinned (OpenSpec.ofChange sendqPiecesSpec)

/-- ITS FALSE NEIGHBOUR: 'it returns false'. Refute it at one input. -/
def sendqPiecesWrong : ChangeSpec := { name := "sendqPieces", fn := fun _ => fun
  | [d1, d2] => { results := [.lit (.bool false)], args := [d1, d2] }
  | _ => none }
def SendqPiecesWrongFalsely : Prop := sendqPiecesRow.holds Try.pinned (OpenSpec.ofChange sendqPiecesWrong)

/-- 'rollcalllaw08.SendqPlays': WHATEVER THE INPUT: true; the input reads as it did. -/
def sendqPlaysSpec : ChangeSpec := { name := "sendqPlays", fn := fun _ => fun
  | [d1, d2] => { results := [.lit (.bool true)], args := [d1, d2] }
  | _ => none }
def sendqPlaysRow : OpenClaim := { program := "ytpjabhpfaahgoaa", sum := "7502218cb6f74b110041a0ace83ec6707731f23c6902577e0d8c7f6b4be19444", func := "rollcall/rollcalllaw08.SendqPlays", spec := "sendqPlays", inPlace := ["internal/bytealg.IndexByteString", "internal/bytealg.IndexString"], unfollowed := true, recurses := true, named := ["internal/bytealg.MaxLen"], apart := false }
def SendqPlaysSaid : Prop := sendqPlaysRow.holds Try.pinned (OpenSpec.ofChange sendqPlaysSpec)

/-- ITS FALSE NEIGHBOUR: 'it returns false'. Refute it at one input. -/
def sendqPlaysWrong : ChangeSpec := { name := "sendqPlays", fn := fun _ => fun
  | [d1, d2] => { results := [.lit (.bool false)], args := [d1, d2] }
  | _ => none }
def SendqPlaysWrongFalsely : Prop := sendqPlaysRow.holds Try.pinned (OpenSpec.ofChange sendqPlaysWrong)

/-- 'rollcalllaw08.SendqOver': WHATEVER THE INPUT: true; the input reads as it did. -/
def sendqOverSpec : ChangeSpec := { name := "sendqOver", fn := fun _ => fun
  | [d1, d2] => { results := [.lit (.bool true)], args := [d1, d2] }
  | _ => none }
def sendqOverRow : OpenClaim := { program := "ytpjabhpfaahgoaa", sum := "7502218cb6f74b110041a0ace83ec6707731f23c6902577e0d8c7f6b4be19444", func := "rollcall/rollcalllaw08.SendqOver", spec := "sendqOver", inPlace := ["internal/bytealg.IndexByteString", "internal/bytealg.IndexString"], unfollowed := true, recurses := true, named := ["internal/bytealg.MaxLen"], apart := false }
def SendqOverSaid : Prop := sendqOverRow.holds Try.pinned (OpenSpec.ofChange sendqOverSpec)

/-- ITS FALSE NEIGHBOUR: 'it returns false'. Refute it at one input. -/
def sendqOverWrong : ChangeSpec := { name := "sendqOver", fn := fun _ => fun
  | [d1, d2] => { results := [.lit (.bool false)], args := [d1, d2] }
  | _ => none }
def SendqOverWrongFalsely : Prop := sendqOverRow.holds Try.pinned (OpenSpec.ofChange sendqOverWrong)

/- THE SECOND FORM. 'bulk': how many values and letters a reading holds, each counted each time it is reached (what is shared counts as often as it is met; a slice's spare places count too). A statement '..UptoSaid' is the law's where the arguments, and the package variables that the reading takes, are together of bulk at most 1048576: NARROWER than '..Said'. Prove '..Said' where nothing that the law and all that it calls make is longer than what came in: it says more and counts as full. Else prove '..UptoSaid'. A law counts once. -/
mutual
def uptoBulk {H : Type} : DataW H → Nat
  | .lit (.string bytes) => bytes.length + 1
  | .lit _ => 1
  | .nil => 1
  | .ptr d => uptoBulk d + 1
  | .slice elems spare => uptoBulkAll elems + uptoBulkAll spare + 1
  | .agg parts => uptoBulkAll parts + 1
  | .iface _ d => uptoBulk d + 1
  | .map entries => uptoBulkEntries entries + 1
  | .held _ => 1
def uptoBulkAll {H : Type} : List (DataW H) → Nat
  | [] => 0
  | d :: r => uptoBulk d + uptoBulkAll r
def uptoBulkEntries {H : Type} : List (Lit × DataW H) → Nat
  | [] => 0
  | x :: r => uptoBulkEntry x + uptoBulkEntries r
def uptoBulkEntry {H : Type} : Lit × DataW H → Nat
  | (.string bytes, d) => bytes.length + uptoBulk d + 1
  | (_, d) => uptoBulk d + 1
 end
def uptoSmall : (H : Type) → List (DataW H) → Bool := fun _ ds => decide (uptoBulkAll ds ≤ 1048576)
def OpenSpec.upto (s : _root_.Go.ChangeSpec) : _root_.Go.OpenSpec := { _root_.Go.OpenSpec.ofChange s with cond := some uptoSmall }

/-- 'rollcalllaw08.SendqWhole', WHERE WHAT IT READS IS OF BULK AT MOST 1048576: true; the input reads as it did. -/
def sendqWholeUptoRow : OpenClaim := { program := "ytpjabhpfaahgoaa", sum := "7502218cb6f74b110041a0ace83ec6707731f23c6902577e0d8c7f6b4be19444", func := "rollcall/rollcalllaw08.SendqWhole", spec := "sendqWhole", inPlace := ["internal/bytealg.IndexByteString", "internal/bytealg.IndexString"], unfollowed := true, recurses := true, named := ["internal/bytealg.MaxLen"], apart := false, narrowed := true }
def SendqWholeUptoSaid : Prop := sendqWholeUptoRow.holds Try.pinned (OpenSpec.upto sendqWholeSpec)

/-- 'rollcalllaw08.SendqPieces', WHERE WHAT IT READS IS OF BULK AT MOST 1048576: true; the input reads as it did. -/
def sendqPiecesUptoRow : OpenClaim := { program := "ytpjabhpfaahgoaa", sum := "7502218cb6f74b110041a0ace83ec6707731f23c6902577e0d8c7f6b4be19444", func := "rollcall/rollcalllaw08.SendqPieces", spec := "sendqPieces", inPlace := ["internal/bytealg.IndexByteString", "internal/bytealg.IndexString"], unfollowed := true, recurses := true, named := ["internal/bytealg.MaxLen"], apart := false, narrowed := true }
def SendqPiecesUptoSaid : Prop := sendqPiecesUptoRow.holds Try.pinned (OpenSpec.upto sendqPiecesSpec)

/-- 'rollcalllaw08.SendqPlays', WHERE WHAT IT READS IS OF BULK AT MOST 1048576: true; the input reads as it did. -/
def sendqPlaysUptoRow : OpenClaim := { program := "ytpjabhpfaahgoaa", sum := "7502218cb6f74b110041a0ace83ec6707731f23c6902577e0d8c7f6b4be19444", func := "rollcall/rollcalllaw08.SendqPlays", spec := "sendqPlays", inPlace := ["internal/bytealg.IndexByteString", "internal/bytealg.IndexString"], unfollowed := true, recurses := true, named := ["internal/bytealg.MaxLen"], apart := false, narrowed := true }
def SendqPlaysUptoSaid : Prop := sendqPlaysUptoRow.holds Try.pinned (OpenSpec.upto sendqPlaysSpec)

/-- 'rollcalllaw08.SendqOver', WHERE WHAT IT READS IS OF BULK AT MOST 1048576: true; the input reads as it did. -/
def sendqOverUptoRow : OpenClaim := { program := "ytpjabhpfaahgoaa", sum := "7502218cb6f74b110041a0ace83ec6707731f23c6902577e0d8c7f6b4be19444", func := "rollcall/rollcalllaw08.SendqOver", spec := "sendqOver", inPlace := ["internal/bytealg.IndexByteString", "internal/bytealg.IndexString"], unfollowed := true, recurses := true, named := ["internal/bytealg.MaxLen"], apart := false, narrowed := true }
def SendqOverUptoSaid : Prop := sendqOverUptoRow.holds Try.pinned (OpenSpec.upto sendqOverSpec)

end Rows
end Go.Proofs.Ytpjabhpfaahgoaa

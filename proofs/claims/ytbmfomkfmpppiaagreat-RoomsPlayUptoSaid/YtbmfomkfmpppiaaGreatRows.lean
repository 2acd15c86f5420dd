/-
  No cell of these rows narrows 'for every input' (looked for: loops, veiled, ifaces, maps, wideKeys, modest, calm, conditions, laid).
  DERIVED. THE GIVEN ROWS OF THIS SEAT. 4 by the template 'for every input the law returns true; each argument reads behind the call as it read before'; 0 by the template 'total and deterministic' (their statements: YtbmfomkfmpppiaaGreatTotals.lean).
  GIVEN WITH THE SEED: the statements are not yours to turn. If you find one false, say at which input.
  Laid BY PROGRAM, IN A SANDBOX (cutbox-rows.mjs): the forced cells as the released guide's own fill.sh prints them over the translation cfdbe51ded2fe968… (all of the seat's roots in one cut). By AI agents, Wed Nov 11 2026. No macro, syntax, notation, axiom, sorry.
-/
import Derived.Test.YtbmfomkfmpppiaaGreatChecked
import GoSem.Claim
import GoSem.ClaimJoined
import GoSem.ClaimMapViews
import Derived.JoinedTies
import Derived.KernelRfl
namespace Go.Proofs.YtbmfomkfmpppiaaGreat
/- THE CELL 'sum', in the pinned program and in every row, IS THE sha256 OF THE DUMP (.gsa) THAT YtbmfomkfmpppiaaGreatProg.lean LOADS. Nothing in Lean hashes anything: it is a label: what it is worth is what the hold of that sum in a sandbox is worth. -/
noncomputable def Tryz.pinned : Pinned := { name := "ytbmfomkfmpppiaagreat", sum := "cfdbe51ded2fe9680b791a081bdbdce5bb4f5971573bd5d60cc2c32460ee0d06", checked := Tryz.checked }
namespace Rows
def none {H : Type} : Left H := { results := [], args := [] }

/-- 'rollcalllaw20.RoomsPeers': WHATEVER THE INPUT: true; the input reads as it did. -/
def roomsPeersSpec : ChangeSpec := { name := "roomsPeers", fn := fun _ => fun
  | [d1, d2, d3] => { results := [.lit (.bool true)], args := [d1, d2, d3] }
  | _ => none }
def roomsPeersRow : OpenClaim := { program := "ytbmfomkfmpppiaagreat", sum := "cfdbe51ded2fe9680b791a081bdbdce5bb4f5971573bd5d60cc2c32460ee0d06", func := "rollcall/rollcalllaw20.RoomsPeers", spec := "roomsPeers", inPlace := ["slices.overlaps[int]", "slices.overlaps[string]", "slices.overlaps[rollcall/book.entry[*rollcall/room.Room]]", "slices.overlaps[rollcall/api.Member]"], unfollowed := true, recurses := true, apart := false }
def RoomsPeersSaid : Prop := roomsPeersRow.holds Tryz.pinned (OpenSpec.ofChange roomsPeersSpec)

/-- ITS FALSE NEIGHBOUR: 'it returns false'. Refute it at one input. -/
def roomsPeersWrong : ChangeSpec := { name := "roomsPeers", fn := fun _ => fun
  | [d1, d2, d3] => { results := [.lit (.bool false)], args := [d1, d2, d3] }
  | _ => none }
def RoomsPeersWrongFalsely : Prop := roomsPeersRow.holds Tryz.pinned (OpenSpec.ofChange roomsPeersWrong)

/-- 'rollcalllaw20.RoomsOrder': WHATEVER THE INPUT: true; the input reads as it did. -/
def roomsOrderSpec : ChangeSpec := { name := "roomsOrder", fn := fun _ => fun
  | [d1, d2] => { results := [.lit (.bool true)], args := [d1, d2] }
  | _ => none }
def roomsOrderRow : OpenClaim := { program := "ytbmfomkfmpppiaagreat", sum := "cfdbe51ded2fe9680b791a081bdbdce5bb4f5971573bd5d60cc2c32460ee0d06", func := "rollcall/rollcalllaw20.RoomsOrder", spec := "roomsOrder", inPlace := ["slices.overlaps[int]", "slices.overlaps[string]", "slices.overlaps[rollcall/book.entry[*rollcall/room.Room]]", "slices.overlaps[rollcall/api.Member]"], unfollowed := true, recurses := true, apart := false }
def RoomsOrderSaid : Prop := roomsOrderRow.holds Tryz.pinned (OpenSpec.ofChange roomsOrderSpec)

/-- ITS FALSE NEIGHBOUR: 'it returns false'. Refute it at one input. -/
def roomsOrderWrong : ChangeSpec := { name := "roomsOrder", fn := fun _ => fun
  | [d1, d2] => { results := [.lit (.bool false)], args := [d1, d2] }
  | _ => none }
def RoomsOrderWrongFalsely : Prop := roomsOrderRow.holds Tryz.pinned (OpenSpec.ofChange roomsOrderWrong)

/-- 'rollcalllaw20.RoomsPlay': WHATEVER THE INPUT: true; the input reads as it did. -/
def roomsPlaySpec : ChangeSpec := { name := "roomsPlay", fn := fun _ => fun
  | [d1, d2, d3] => { results := [.lit (.bool true)], args := [d1, d2, d3] }
  | _ => none }
def roomsPlayRow : OpenClaim := { program := "ytbmfomkfmpppiaagreat", sum := "cfdbe51ded2fe9680b791a081bdbdce5bb4f5971573bd5d60cc2c32460ee0d06", func := "rollcall/rollcalllaw20.RoomsPlay", spec := "roomsPlay", inPlace := ["slices.overlaps[int]", "slices.overlaps[string]", "slices.overlaps[rollcall/book.entry[*rollcall/room.Room]]", "slices.overlaps[rollcall/api.Member]"], unfollowed := true, recurses := true, apart := false }
def RoomsPlaySaid : Prop := roomsPlayRow.holds Tryz.pinned (OpenSpec.ofChange roomsPlaySpec)

/-- ITS FALSE NEIGHBOUR: 'it returns false'. Refute it at one input. -/
def roomsPlayWrong : ChangeSpec := { name := "roomsPlay", fn := fun _ => fun
  | [d1, d2, d3] => { results := [.lit (.bool false)], args := [d1, d2, d3] }
  | _ => none }
def RoomsPlayWrongFalsely : Prop := roomsPlayRow.holds Tryz.pinned (OpenSpec.ofChange roomsPlayWrong)

/-- 'rollcalllaw20.RoomsStay': WHATEVER THE INPUT: true; the input reads as it did. -/
def roomsStaySpec : ChangeSpec := { name := "roomsStay", fn := fun _ => fun
  | [d1, d2, d3] => { results := [.lit (.bool true)], args := [d1, d2, d3] }
  | _ => none }
def roomsStayRow : OpenClaim := { program := "ytbmfomkfmpppiaagreat", sum := "cfdbe51ded2fe9680b791a081bdbdce5bb4f5971573bd5d60cc2c32460ee0d06", func := "rollcall/rollcalllaw20.RoomsStay", spec := "roomsStay", inPlace := ["slices.overlaps[int]", "slices.overlaps[string]", "slices.overlaps[rollcall/book.entry[*rollcall/room.Room]]", "slices.overlaps[rollcall/api.Member]"], unfollowed := true, recurses := true, apart := false }
def RoomsStaySaid : Prop := roomsStayRow.holds Tryz.pinned (OpenSpec.ofChange roomsStaySpec)

/-- ITS FALSE NEIGHBOUR: 'it returns false'. Refute it at one input. -/
def roomsStayWrong : ChangeSpec := { name := "roomsStay", fn := fun _ => fun
  | [d1, d2, d3] => { results := [.lit (.bool false)], args := [d1, d2, d3] }
  | _ => none }
def RoomsStayWrongFalsely : Prop := roomsStayRow.holds Tryz.pinned (OpenSpec.ofChange roomsStayWrong)

/- THE SECOND FORM. 'bulk': how many values and letters a reading holds, each counted each time it is reached (what is shared counts as often as it is met; a slice's spare places count too). A statement '..UptoSaid' is the law's where the arguments, and the package variables that the reading takes, are together of bulk at most 1048576: NARROWER than '..Said'. Prove '..Said' where nothing that the law and all that it calls make is longer than what came in: it says more and counts as full. Else prove '..UptoSaid'. A law counts once. -/
mutual
def uptoBulk {H : Type} : DataW H → Nat
  | .lit (.string bytes) => bytes.length + 1
  | .lit _ => 1
  | .nil => 1
  | .ptr d => uptoBulk d + 1
  | .slice elems spare => uptoBulkAll elems + uptoBulkAll spare + 1
  | .agg parts => uptoBulkAll parts + 1
  | .iface _ d => uptoBulk d + 1
  | .map entries => uptoBulkEntries entries + 1
  | .held _ => 1
def uptoBulkAll {H : Type} : List (DataW H) → Nat
  | [] => 0
  | d :: r => uptoBulk d + uptoBulkAll r
def uptoBulkEntries {H : Type} : List (Lit × DataW H) → Nat
  | [] => 0
  | x :: r => uptoBulkEntry x + uptoBulkEntries r
def uptoBulkEntry {H : Type} : Lit × DataW H → Nat
  | (.string bytes, d) => bytes.length + uptoBulk d + 1
  | (_, d) => uptoBulk d + 1
 end
def uptoSmall : (H : Type) → List (DataW H) → Bool := fun _ ds => decide (uptoBulkAll ds ≤ 1048576)
def OpenSpec.upto (s : _root_.Go.ChangeSpec) : _root_.Go.OpenSpec := { _root_.Go.OpenSpec.ofChange s with cond := some uptoSmall }

/-- 'rollcalllaw20.RoomsPeers', WHERE WHAT IT READS IS OF BULK AT MOST 1048576: true; the input reads as it did. -/
def roomsPeersUptoRow : OpenClaim := { program := "ytbmfomkfmpppiaagreat", sum := "cfdbe51ded2fe9680b791a081bdbdce5bb4f5971573bd5d60cc2c32460ee0d06", func := "rollcall/rollcalllaw20.RoomsPeers", spec := "roomsPeers", inPlace := ["slices.overlaps[int]", "slices.overlaps[string]", "slices.overlaps[rollcall/book.entry[*rollcall/room.Room]]", "slices.overlaps[rollcall/api.Member]"], unfollowed := true, recurses := true, apart := false, narrowed := true }
def RoomsPeersUptoSaid : Prop := roomsPeersUptoRow.holds Tryz.pinned (OpenSpec.upto roomsPeersSpec)

/-- 'rollcalllaw20.RoomsOrder', WHERE WHAT IT READS IS OF BULK AT MOST 1048576: true; the input reads as it did. -/
def roomsOrderUptoRow : OpenClaim := { program := "ytbmfomkfmpppiaagreat", sum := "cfdbe51ded2fe9680b791a081bdbdce5bb4f5971573bd5d60cc2c32460ee0d06", func := "rollcall/rollcalllaw20.RoomsOrder", spec := "roomsOrder", inPlace := ["slices.overlaps[int]", "slices.overlaps[string]", "slices.overlaps[rollcall/book.entry[*rollcall/room.Room]]", "slices.overlaps[rollcall/api.Member]"], unfollowed := true, recurses := true, apart := false, narrowed := true }
def RoomsOrderUptoSaid : Prop := roomsOrderUptoRow.holds Tryz.pinned (OpenSpec.upto roomsOrderSpec)

/-- 'rollcalllaw20.RoomsPlay', WHERE WHAT IT READS IS OF BULK AT MOST 1048576: true; the input reads as it did. -/
def roomsPlayUptoRow : OpenClaim := { program := "ytbmfomkfmpppiaagreat", sum := "cfdbe51ded2fe9680b791a081bdbdce5bb4f5971573bd5d60cc2c32460ee0d06", func := "rollcall/rollcalllaw20.RoomsPlay", spec := "roomsPlay", inPlace := ["slices.overlaps[int]", "slices.overlaps[string]", "slices.overlaps[rollcall/book.entry[*rollcall/room.Room]]", "slices.overlaps[rollcall/api.Member]"], unfollowed := true, recurses := true, apart := false, narrowed := true }
def RoomsPlayUptoSaid : Prop := roomsPlayUptoRow.holds Tryz.pinned (OpenSpec.upto roomsPlaySpec)

/-- 'rollcalllaw20.RoomsStay', WHERE WHAT IT READS IS OF BULK AT MOST 1048576: true; the input reads as it did. -/
def roomsStayUptoRow : OpenClaim := { program := "ytbmfomkfmpppiaagreat", sum := "cfdbe51ded2fe9680b791a081bdbdce5bb4f5971573bd5d60cc2c32460ee0d06", func := "rollcall/rollcalllaw20.RoomsStay", spec := "roomsStay", inPlace := ["slices.overlaps[int]", "slices.overlaps[string]", "slices.overlaps[rollcall/book.entry[*rollcall/room.Room]]", "slices.overlaps[rollcall/api.Member]"], unfollowed := true, recurses := true, apart := false, narrowed := true }
def RoomsStayUptoSaid : Prop := roomsStayUptoRow.holds Tryz.pinned (OpenSpec.upto roomsStaySpec)

end Rows
end Go.Proofs.YtbmfomkfmpppiaaGreat

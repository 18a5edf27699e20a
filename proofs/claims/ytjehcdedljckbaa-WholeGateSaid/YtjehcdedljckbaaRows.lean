/-
  No cell of these rows narrows 'for every input' (looked for: loops, veiled, ifaces, maps, wideKeys, modest, calm, conditions, laid).
  DERIVED. THE GIVEN ROWS OF THIS SEAT. 3 by the template 'for every input the law returns true; each argument reads behind the call as it read before'; 0 by the template 'total and deterministic' (their statements: YtjehcdedljckbaaTotals.lean).
  GIVEN WITH THE SEED: the statements are not yours to turn. If you find one false, say at which input.
  Laid BY PROGRAM, IN A SANDBOX (cutbox-rows.mjs): the forced cells as the released guide's own fill.sh prints them over the translation 6d0cdfcce0afaef0… (all of the seat's roots in one cut). By AI agents, Wed Nov 11 2026. No macro, syntax, notation, axiom, sorry.
-/
import Derived.Test.YtjehcdedljckbaaChecked
import GoSem.Claim
import GoSem.ClaimJoined
import GoSem.ClaimMapViews
import Derived.JoinedTies
import Derived.KernelRfl
namespace Go.Proofs.Ytjehcdedljckbaa
/- THE CELL 'sum', in the pinned program and in every row, IS THE sha256 OF THE DUMP (.gsa) THAT YtjehcdedljckbaaProg.lean LOADS. Nothing in Lean hashes anything: it is a label: what it is worth is what the hold of that sum in a sandbox is worth. -/
noncomputable def Try.pinned : Pinned := { name := "ytjehcdedljckbaa", sum := "6d0cdfcce0afaef0c514edd21eee98d3bf4dec0ee51534a92ae6d7dc1dcb7397", checked := Try.checked }
namespace Rows
def none {H : Type} : Left H := { results := [], args := [] }

/-- 'socagelaw18.CursorRoom': WHATEVER THE INPUT: true; the input reads as it did. -/
def cursorRoomSpec : ChangeSpec := { name := "cursorRoom", fn := fun _ => fun
  | [d1, d2] => { results := [.lit (.bool true)], args := [d1, d2] }
  | _ => none }
def cursorRoomRow : OpenClaim := { program := "ytjehcdedljckbaa", sum := "6d0cdfcce0afaef0c514edd21eee98d3bf4dec0ee51534a92ae6d7dc1dcb7397", func := "socage/socagelaw18.CursorRoom", spec := "cursorRoom", apart := false }
def CursorRoomSaid : Prop := cursorRoomRow.holds Try.pinned (OpenSpec.ofChange cursorRoomSpec)

/-- ITS FALSE NEIGHBOUR: 'it returns false'. Refute it at one input. -/
def cursorRoomWrong : ChangeSpec := { name := "cursorRoom", fn := fun _ => fun
  | [d1, d2] => { results := [.lit (.bool false)], args := [d1, d2] }
  | _ => none }
def CursorRoomWrongFalsely : Prop := cursorRoomRow.holds Try.pinned (OpenSpec.ofChange cursorRoomWrong)

/-- 'socagelaw18.CursorDoes': WHATEVER THE INPUT: true; the input reads as it did. -/
def cursorDoesSpec : ChangeSpec := { name := "cursorDoes", fn := fun _ => fun
  | [d1, d2] => { results := [.lit (.bool true)], args := [d1, d2] }
  | _ => none }
def cursorDoesRow : OpenClaim := { program := "ytjehcdedljckbaa", sum := "6d0cdfcce0afaef0c514edd21eee98d3bf4dec0ee51534a92ae6d7dc1dcb7397", func := "socage/socagelaw18.CursorDoes", spec := "cursorDoes", apart := false }
def CursorDoesSaid : Prop := cursorDoesRow.holds Try.pinned (OpenSpec.ofChange cursorDoesSpec)

/-- ITS FALSE NEIGHBOUR: 'it returns false'. Refute it at one input. -/
def cursorDoesWrong : ChangeSpec := { name := "cursorDoes", fn := fun _ => fun
  | [d1, d2] => { results := [.lit (.bool false)], args := [d1, d2] }
  | _ => none }
def CursorDoesWrongFalsely : Prop := cursorDoesRow.holds Try.pinned (OpenSpec.ofChange cursorDoesWrong)

/-- 'socagetop.WholeGate': WHATEVER THE INPUT: true; the input reads as it did. -/
def wholeGateSpec : ChangeSpec := { name := "wholeGate", fn := fun _ => fun
  | [d] => { results := [.lit (.bool true)], args := [d] }
  | _ => none }
def wholeGateRow : OpenClaim := { program := "ytjehcdedljckbaa", sum := "6d0cdfcce0afaef0c514edd21eee98d3bf4dec0ee51534a92ae6d7dc1dcb7397", func := "socage/socagetop.WholeGate", spec := "wholeGate", unfollowed := true, recurses := true, apart := false }
def WholeGateSaid : Prop := wholeGateRow.holds Try.pinned (OpenSpec.ofChange wholeGateSpec)

/-- ITS FALSE NEIGHBOUR: 'it returns false'. Refute it at one input. -/
def wholeGateWrong : ChangeSpec := { name := "wholeGate", fn := fun _ => fun
  | [d] => { results := [.lit (.bool false)], args := [d] }
  | _ => none }
def WholeGateWrongFalsely : Prop := wholeGateRow.holds Try.pinned (OpenSpec.ofChange wholeGateWrong)

/- THE SECOND FORM. 'bulk': how many values and letters a reading holds, each counted each time it is reached (what is shared counts as often as it is met; a slice's spare places count too). A statement '..UptoSaid' is the law's where the arguments, and the package variables that the reading takes, are together of bulk at most 1048576: NARROWER than '..Said'. Prove '..Said' where nothing that the law and all that it calls make is longer than what came in: it says more and counts as full. Else prove '..UptoSaid'. A law counts once. -/
mutual
def uptoBulk {H : Type} : DataW H → Nat
  | .lit (.string bytes) => bytes.length + 1
  | .lit _ => 1
  | .nil => 1
  | .ptr d => uptoBulk d + 1
  | .slice elems spare => uptoBulkAll elems + uptoBulkAll spare + 1
  | .agg parts => uptoBulkAll parts + 1
  | .iface _ d => uptoBulk d + 1
  | .map entries => uptoBulkEntries entries + 1
  | .held _ => 1
def uptoBulkAll {H : Type} : List (DataW H) → Nat
  | [] => 0
  | d :: r => uptoBulk d + uptoBulkAll r
def uptoBulkEntries {H : Type} : List (Lit × DataW H) → Nat
  | [] => 0
  | x :: r => uptoBulkEntry x + uptoBulkEntries r
def uptoBulkEntry {H : Type} : Lit × DataW H → Nat
  | (.string bytes, d) => bytes.length + uptoBulk d + 1
  | (_, d) => uptoBulk d + 1
 end
def uptoSmall : (H : Type) → List (DataW H) → Bool := fun _ ds => decide (uptoBulkAll ds ≤ 1048576)
def OpenSpec.upto (s : _root_.Go.ChangeSpec) : _root_.Go.OpenSpec := { _root_.Go.OpenSpec.ofChange s with cond := some uptoSmall }

/-- 'socagelaw18.CursorRoom', WHERE WHAT IT READS IS OF BULK AT MOST 1048576: true; the input reads as it did. -/
def cursorRoomUptoRow : OpenClaim := { program := "ytjehcdedljckbaa", sum := "6d0cdfcce0afaef0c514edd21eee98d3bf4dec0ee51534a92ae6d7dc1dcb7397", func := "socage/socagelaw18.CursorRoom", spec := "cursorRoom", apart := false, narrowed := true }
def CursorRoomUptoSaid : Prop := cursorRoomUptoRow.holds Try.pinned (OpenSpec.upto cursorRoomSpec)

/-- 'socagelaw18.CursorDoes', WHERE WHAT IT READS IS OF BULK AT MOST 1048576: true; the input reads as it did. -/
def cursorDoesUptoRow : OpenClaim := { program := "ytjehcdedljckbaa", sum := "6d0cdfcce0afaef0c514edd21eee98d3bf4dec0ee51534a92ae6d7dc1dcb7397", func := "socage/socagelaw18.CursorDoes", spec := "cursorDoes", apart := false, narrowed := true }
def CursorDoesUptoSaid : Prop := cursorDoesUptoRow.holds Try.pinned (OpenSpec.upto cursorDoesSpec)

/-- 'socagetop.WholeGate', WHERE WHAT IT READS IS OF BULK AT MOST 1048576: true; the input reads as it did. -/
def wholeGateUptoRow : OpenClaim := { program := "ytjehcdedljckbaa", sum := "6d0cdfcce0afaef0c514edd21eee98d3bf4dec0ee51534a92ae6d7dc1dcb7397", func := "socage/socagetop.WholeGate", spec := "wholeGate", unfollowed := true, recurses := true, apart := false, narrowed := true }
def WholeGateUptoSaid : Prop := wholeGateUptoRow.holds Try.pinned (OpenSpec.upto wholeGateSpec)

end Rows
end Go.Proofs.Ytjehcdedljckbaa

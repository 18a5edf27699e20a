/-
  No cell of these rows narrows 'for every input' (looked for: loops, veiled, ifaces, maps, wideKeys, modest, calm, conditions, laid).
  DERIVED. THE GIVEN ROWS OF THIS SEAT. 10 by the template 'for every input the law returns true; each argument reads behind the call as it read before'; 0 by the template 'total and deterministic' (their statements: YtiopmehaghcpfaaTotals.lean).
  GIVEN WITH THE SEED: the statements are not yours to turn. If you find one false, say at which input.
  Laid BY PROGRAM, IN A SANDBOX (cutbox-rows.mjs): the forced cells as the released guide's own fill.sh prints them over the translation 1af24f08888ab2c9… (all of the seat's roots in one cut). By AI agents, Wed Nov 11 2026. No macro, syntax, notation, axiom, sorry.
-/
import Derived.Test.YtiopmehaghcpfaaChecked
import GoSem.Claim
import GoSem.ClaimJoined
import GoSem.ClaimMapViews
import Derived.JoinedTies
import Derived.KernelRfl
namespace Go.Proofs.Ytiopmehaghcpfaa
/- THE CELL 'sum', in the pinned program and in every row, IS THE sha256 OF THE DUMP (.gsa) THAT YtiopmehaghcpfaaProg.lean LOADS. Nothing in Lean hashes anything: it is a label: what it is worth is what the hold of that sum in a sandbox is worth. -/
noncomputable def Try.pinned : Pinned := { name := "ytiopmehaghcpfaa", sum := "1af24f08888ab2c97138462ec962e2a55ba437fd26cde4b28bb5a6af9ffe69f5", checked := Try.checked }
namespace Rows
def none {H : Type} : Left H := { results := [], args := [] }

/-- 'socagelaw13.LruKeeps': WHATEVER THE INPUT: true; the input reads as it did. -/
def lruKeepsSpec : ChangeSpec := { name := "lruKeeps", fn := fun _ => fun
  | [d1, d2] => { results := [.lit (.bool true)], args := [d1, d2] }
  | _ => none }
def lruKeepsRow : OpenClaim := { program := "ytiopmehaghcpfaa", sum := "1af24f08888ab2c97138462ec962e2a55ba437fd26cde4b28bb5a6af9ffe69f5", func := "socage/socagelaw13.LruKeeps", spec := "lruKeeps", apart := false }
def LruKeepsSaid : Prop := lruKeepsRow.holds Try.pinned (OpenSpec.ofChange lruKeepsSpec)

/-- ITS FALSE NEIGHBOUR: 'it returns false'. Refute it at one input. -/
def lruKeepsWrong : ChangeSpec := { name := "lruKeeps", fn := fun _ => fun
  | [d1, d2] => { results := [.lit (.bool false)], args := [d1, d2] }
  | _ => none }
def LruKeepsWrongFalsely : Prop := lruKeepsRow.holds Try.pinned (OpenSpec.ofChange lruKeepsWrong)

/-- 'socagetop.WholeRoom': WHATEVER THE INPUT: true; the input reads as it did. -/
def wholeRoomSpec : ChangeSpec := { name := "wholeRoom", fn := fun _ => fun
  | [d1, d2, d3] => { results := [.lit (.bool true)], args := [d1, d2, d3] }
  | _ => none }
def wholeRoomRow : OpenClaim := { program := "ytiopmehaghcpfaa", sum := "1af24f08888ab2c97138462ec962e2a55ba437fd26cde4b28bb5a6af9ffe69f5", func := "socage/socagetop.WholeRoom", spec := "wholeRoom", apart := false }
def WholeRoomSaid : Prop := wholeRoomRow.holds Try.pinned (OpenSpec.ofChange wholeRoomSpec)

/-- ITS FALSE NEIGHBOUR: 'it returns false'. Refute it at one input. -/
def wholeRoomWrong : ChangeSpec := { name := "wholeRoom", fn := fun _ => fun
  | [d1, d2, d3] => { results := [.lit (.bool false)], args := [d1, d2, d3] }
  | _ => none }
def WholeRoomWrongFalsely : Prop := wholeRoomRow.holds Try.pinned (OpenSpec.ofChange wholeRoomWrong)

/-- 'socagelaw13.LruDoes': WHATEVER THE INPUT: true; the input reads as it did. -/
def lruDoesSpec : ChangeSpec := { name := "lruDoes", fn := fun _ => fun
  | [d1, d2] => { results := [.lit (.bool true)], args := [d1, d2] }
  | _ => none }
def lruDoesRow : OpenClaim := { program := "ytiopmehaghcpfaa", sum := "1af24f08888ab2c97138462ec962e2a55ba437fd26cde4b28bb5a6af9ffe69f5", func := "socage/socagelaw13.LruDoes", spec := "lruDoes", apart := false }
def LruDoesSaid : Prop := lruDoesRow.holds Try.pinned (OpenSpec.ofChange lruDoesSpec)

/-- ITS FALSE NEIGHBOUR: 'it returns false'. Refute it at one input. -/
def lruDoesWrong : ChangeSpec := { name := "lruDoes", fn := fun _ => fun
  | [d1, d2] => { results := [.lit (.bool false)], args := [d1, d2] }
  | _ => none }
def LruDoesWrongFalsely : Prop := lruDoesRow.holds Try.pinned (OpenSpec.ofChange lruDoesWrong)

/-- 'socagelaw14.ShardSums': WHATEVER THE INPUT: true; the input reads as it did. -/
def shardSumsSpec : ChangeSpec := { name := "shardSums", fn := fun _ => fun
  | [d1, d2] => { results := [.lit (.bool true)], args := [d1, d2] }
  | _ => none }
def shardSumsRow : OpenClaim := { program := "ytiopmehaghcpfaa", sum := "1af24f08888ab2c97138462ec962e2a55ba437fd26cde4b28bb5a6af9ffe69f5", func := "socage/socagelaw14.ShardSums", spec := "shardSums", apart := false }
def ShardSumsSaid : Prop := shardSumsRow.holds Try.pinned (OpenSpec.ofChange shardSumsSpec)

/-- ITS FALSE NEIGHBOUR: 'it returns false'. Refute it at one input. -/
def shardSumsWrong : ChangeSpec := { name := "shardSums", fn := fun _ => fun
  | [d1, d2] => { results := [.lit (.bool false)], args := [d1, d2] }
  | _ => none }
def ShardSumsWrongFalsely : Prop := shardSumsRow.holds Try.pinned (OpenSpec.ofChange shardSumsWrong)

/-- 'socagetop.WholeEpochs': WHATEVER THE INPUT: true; the input reads as it did. -/
def wholeEpochsSpec : ChangeSpec := { name := "wholeEpochs", fn := fun _ => fun
  | [d1, d2, d3] => { results := [.lit (.bool true)], args := [d1, d2, d3] }
  | _ => none }
def wholeEpochsRow : OpenClaim := { program := "ytiopmehaghcpfaa", sum := "1af24f08888ab2c97138462ec962e2a55ba437fd26cde4b28bb5a6af9ffe69f5", func := "socage/socagetop.WholeEpochs", spec := "wholeEpochs", apart := false }
def WholeEpochsSaid : Prop := wholeEpochsRow.holds Try.pinned (OpenSpec.ofChange wholeEpochsSpec)

/-- ITS FALSE NEIGHBOUR: 'it returns false'. Refute it at one input. -/
def wholeEpochsWrong : ChangeSpec := { name := "wholeEpochs", fn := fun _ => fun
  | [d1, d2, d3] => { results := [.lit (.bool false)], args := [d1, d2, d3] }
  | _ => none }
def WholeEpochsWrongFalsely : Prop := wholeEpochsRow.holds Try.pinned (OpenSpec.ofChange wholeEpochsWrong)

/-- 'socagelaw14.ShardDoes': WHATEVER THE INPUT: true; the input reads as it did. -/
def shardDoesSpec : ChangeSpec := { name := "shardDoes", fn := fun _ => fun
  | [d1, d2] => { results := [.lit (.bool true)], args := [d1, d2] }
  | _ => none }
def shardDoesRow : OpenClaim := { program := "ytiopmehaghcpfaa", sum := "1af24f08888ab2c97138462ec962e2a55ba437fd26cde4b28bb5a6af9ffe69f5", func := "socage/socagelaw14.ShardDoes", spec := "shardDoes", apart := false }
def ShardDoesSaid : Prop := shardDoesRow.holds Try.pinned (OpenSpec.ofChange shardDoesSpec)

/-- ITS FALSE NEIGHBOUR: 'it returns false'. Refute it at one input. -/
def shardDoesWrong : ChangeSpec := { name := "shardDoes", fn := fun _ => fun
  | [d1, d2] => { results := [.lit (.bool false)], args := [d1, d2] }
  | _ => none }
def ShardDoesWrongFalsely : Prop := shardDoesRow.holds Try.pinned (OpenSpec.ofChange shardDoesWrong)

/-- 'socagelaw16.LcacheOnce': WHATEVER THE INPUT: true; the input reads as it did. -/
def lcacheOnceSpec : ChangeSpec := { name := "lcacheOnce", fn := fun _ => fun
  | [d1, d2] => { results := [.lit (.bool true)], args := [d1, d2] }
  | _ => none }
def lcacheOnceRow : OpenClaim := { program := "ytiopmehaghcpfaa", sum := "1af24f08888ab2c97138462ec962e2a55ba437fd26cde4b28bb5a6af9ffe69f5", func := "socage/socagelaw16.LcacheOnce", spec := "lcacheOnce", unfollowed := true, recurses := true, apart := false }
def LcacheOnceSaid : Prop := lcacheOnceRow.holds Try.pinned (OpenSpec.ofChange lcacheOnceSpec)

/-- ITS FALSE NEIGHBOUR: 'it returns false'. Refute it at one input. -/
def lcacheOnceWrong : ChangeSpec := { name := "lcacheOnce", fn := fun _ => fun
  | [d1, d2] => { results := [.lit (.bool false)], args := [d1, d2] }
  | _ => none }
def LcacheOnceWrongFalsely : Prop := lcacheOnceRow.holds Try.pinned (OpenSpec.ofChange lcacheOnceWrong)

/-- 'socagelaw15.DcacheOwn': WHATEVER THE INPUT: true; the input reads as it did. -/
def dcacheOwnSpec : ChangeSpec := { name := "dcacheOwn", fn := fun _ => fun
  | [d] => { results := [.lit (.bool true)], args := [d] }
  | _ => none }
def dcacheOwnRow : OpenClaim := { program := "ytiopmehaghcpfaa", sum := "1af24f08888ab2c97138462ec962e2a55ba437fd26cde4b28bb5a6af9ffe69f5", func := "socage/socagelaw15.DcacheOwn", spec := "dcacheOwn", apart := false }
def DcacheOwnSaid : Prop := dcacheOwnRow.holds Try.pinned (OpenSpec.ofChange dcacheOwnSpec)

/-- ITS FALSE NEIGHBOUR: 'it returns false'. Refute it at one input. -/
def dcacheOwnWrong : ChangeSpec := { name := "dcacheOwn", fn := fun _ => fun
  | [d] => { results := [.lit (.bool false)], args := [d] }
  | _ => none }
def DcacheOwnWrongFalsely : Prop := dcacheOwnRow.holds Try.pinned (OpenSpec.ofChange dcacheOwnWrong)

/-- 'socagelaw16.LcacheDoes': WHATEVER THE INPUT: true; the input reads as it did. -/
def lcacheDoesSpec : ChangeSpec := { name := "lcacheDoes", fn := fun _ => fun
  | [d1, d2] => { results := [.lit (.bool true)], args := [d1, d2] }
  | _ => none }
def lcacheDoesRow : OpenClaim := { program := "ytiopmehaghcpfaa", sum := "1af24f08888ab2c97138462ec962e2a55ba437fd26cde4b28bb5a6af9ffe69f5", func := "socage/socagelaw16.LcacheDoes", spec := "lcacheDoes", unfollowed := true, recurses := true, apart := false }
def LcacheDoesSaid : Prop := lcacheDoesRow.holds Try.pinned (OpenSpec.ofChange lcacheDoesSpec)

/-- ITS FALSE NEIGHBOUR: 'it returns false'. Refute it at one input. -/
def lcacheDoesWrong : ChangeSpec := { name := "lcacheDoes", fn := fun _ => fun
  | [d1, d2] => { results := [.lit (.bool false)], args := [d1, d2] }
  | _ => none }
def LcacheDoesWrongFalsely : Prop := lcacheDoesRow.holds Try.pinned (OpenSpec.ofChange lcacheDoesWrong)

/-- 'socagelaw15.DcacheDoes': WHATEVER THE INPUT: true; the input reads as it did. -/
def dcacheDoesSpec : ChangeSpec := { name := "dcacheDoes", fn := fun _ => fun
  | [d1, d2] => { results := [.lit (.bool true)], args := [d1, d2] }
  | _ => none }
def dcacheDoesRow : OpenClaim := { program := "ytiopmehaghcpfaa", sum := "1af24f08888ab2c97138462ec962e2a55ba437fd26cde4b28bb5a6af9ffe69f5", func := "socage/socagelaw15.DcacheDoes", spec := "dcacheDoes", apart := false }
def DcacheDoesSaid : Prop := dcacheDoesRow.holds Try.pinned (OpenSpec.ofChange dcacheDoesSpec)

/-- ITS FALSE NEIGHBOUR: 'it returns false'. Refute it at one input. -/
def dcacheDoesWrong : ChangeSpec := { name := "dcacheDoes", fn := fun _ => fun
  | [d1, d2] => { results := [.lit (.bool false)], args := [d1, d2] }
  | _ => none }
def DcacheDoesWrongFalsely : Prop := dcacheDoesRow.holds Try.pinned (OpenSpec.ofChange dcacheDoesWrong)

/- THE SECOND FORM. 'bulk': how many values and letters a reading holds, each counted each time it is reached (what is shared counts as often as it is met; a slice's spare places count too). A statement '..UptoSaid' is the law's where the arguments, and the package variables that the reading takes, are together of bulk at most 1048576: NARROWER than '..Said'. Prove '..Said' where nothing that the law and all that it calls make is longer than what came in: it says more and counts as full. Else prove '..UptoSaid'. A law counts once. -/
mutual
def uptoBulk {H : Type} : DataW H → Nat
  | .lit (.string bytes) => bytes.length + 1
  | .lit _ => 1
  | .nil => 1
  | .ptr d => uptoBulk d + 1
  | .slice elems spare => uptoBulkAll elems + uptoBulkAll spare + 1
  | .agg parts => uptoBulkAll parts + 1
  | .iface _ d => uptoBulk d + 1
  | .map entries => uptoBulkEntries entries + 1
  | .held _ => 1
def uptoBulkAll {H : Type} : List (DataW H) → Nat
  | [] => 0
  | d :: r => uptoBulk d + uptoBulkAll r
def uptoBulkEntries {H : Type} : List (Lit × DataW H) → Nat
  | [] => 0
  | x :: r => uptoBulkEntry x + uptoBulkEntries r
def uptoBulkEntry {H : Type} : Lit × DataW H → Nat
  | (.string bytes, d) => bytes.length + uptoBulk d + 1
  | (_, d) => uptoBulk d + 1
 end
def uptoSmall : (H : Type) → List (DataW H) → Bool := fun _ ds => decide (uptoBulkAll ds ≤ 1048576)
def OpenSpec.upto (s : _root_.Go.ChangeSpec) : _root_.Go.OpenSpec := { _root_.Go.OpenSpec.ofChange s with cond := some uptoSmall }

/-- 'socagelaw13.LruKeeps', WHERE WHAT IT READS IS OF BULK AT MOST 1048576: true; the input reads as it did. -/
def lruKeepsUptoRow : OpenClaim := { program := "ytiopmehaghcpfaa", sum := "1af24f08888ab2c97138462ec962e2a55ba437fd26cde4b28bb5a6af9ffe69f5", func := "socage/socagelaw13.LruKeeps", spec := "lruKeeps", apart := false, narrowed := true }
def LruKeepsUptoSaid : Prop := lruKeepsUptoRow.holds Try.pinned (OpenSpec.upto lruKeepsSpec)

/-- 'socagetop.WholeRoom', WHERE WHAT IT READS IS OF BULK AT MOST 1048576: true; the input reads as it did. -/
def wholeRoomUptoRow : OpenClaim := { program := "ytiopmehaghcpfaa", sum := "1af24f08888ab2c97138462ec962e2a55ba437fd26cde4b28bb5a6af9ffe69f5", func := "socage/socagetop.WholeRoom", spec := "wholeRoom", apart := false, narrowed := true }
def WholeRoomUptoSaid : Prop := wholeRoomUptoRow.holds Try.pinned (OpenSpec.upto wholeRoomSpec)

/-- 'socagelaw13.LruDoes', WHERE WHAT IT READS IS OF BULK AT MOST 1048576: true; the input reads as it did. -/
def lruDoesUptoRow : OpenClaim := { program := "ytiopmehaghcpfaa", sum := "1af24f08888ab2c97138462ec962e2a55ba437fd26cde4b28bb5a6af9ffe69f5", func := "socage/socagelaw13.LruDoes", spec := "lruDoes", apart := false, narrowed := true }
def LruDoesUptoSaid : Prop := lruDoesUptoRow.holds Try.pinned (OpenSpec.upto lruDoesSpec)

/-- 'socagelaw14.ShardSums', WHERE WHAT IT READS IS OF BULK AT MOST 1048576: true; the input reads as it did. -/
def shardSumsUptoRow : OpenClaim := { program := "ytiopmehaghcpfaa", sum := "1af24f08888ab2c97138462ec962e2a55ba437fd26cde4b28bb5a6af9ffe69f5", func := "socage/socagelaw14.ShardSums", spec := "shardSums", apart := false, narrowed := true }
def ShardSumsUptoSaid : Prop := shardSumsUptoRow.holds Try.pinned (OpenSpec.upto shardSumsSpec)

/-- 'socagetop.WholeEpochs', WHERE WHAT IT READS IS OF BULK AT MOST 1048576: true; the input reads as it did. -/
def wholeEpochsUptoRow : OpenClaim := { program := "ytiopmehaghcpfaa", sum := "1af24f08888ab2c97138462ec962e2a55ba437fd26cde4b28bb5a6af9ffe69f5", func := "socage/socagetop.WholeEpochs", spec := "wholeEpochs", apart := false, narrowed := true }
def WholeEpochsUptoSaid : Prop := wholeEpochsUptoRow.holds Try.pinned (OpenSpec.upto wholeEpochsSpec)

/-- 'socagelaw14.ShardDoes', WHERE WHAT IT READS IS OF BULK AT MOST 1048576: true; the input reads as it did. -/
def shardDoesUptoRow : OpenClaim := { program := "ytiopmehaghcpfaa", sum := "1af24f08888ab2c97138462ec962e2a55ba437fd26cde4b28bb5a6af9ffe69f5", func := "socage/socagelaw14.ShardDoes", spec := "shardDoes", apart := false, narrowed := true }
def ShardDoesUptoSaid : Prop := shardDoesUptoRow.holds Try.pinned (OpenSpec.upto shardDoesSpec)

/-- 'socagelaw16.LcacheOnce', WHERE WHAT IT READS IS OF BULK AT MOST 1048576: true; the input reads as it did. -/
def lcacheOnceUptoRow : OpenClaim := { program := "ytiopmehaghcpfaa", sum := "1af24f08888ab2c97138462ec962e2a55ba437fd26cde4b28bb5a6af9ffe69f5", func := "socage/socagelaw16.LcacheOnce", spec := "lcacheOnce", unfollowed := true, recurses := true, apart := false, narrowed := true }
def LcacheOnceUptoSaid : Prop := lcacheOnceUptoRow.holds Try.pinned (OpenSpec.upto lcacheOnceSpec)

/-- 'socagelaw15.DcacheOwn', WHERE WHAT IT READS IS OF BULK AT MOST 1048576: true; the input reads as it did. -/
def dcacheOwnUptoRow : OpenClaim := { program := "ytiopmehaghcpfaa", sum := "1af24f08888ab2c97138462ec962e2a55ba437fd26cde4b28bb5a6af9ffe69f5", func := "socage/socagelaw15.DcacheOwn", spec := "dcacheOwn", apart := false, narrowed := true }
def DcacheOwnUptoSaid : Prop := dcacheOwnUptoRow.holds Try.pinned (OpenSpec.upto dcacheOwnSpec)

/-- 'socagelaw16.LcacheDoes', WHERE WHAT IT READS IS OF BULK AT MOST 1048576: true; the input reads as it did. -/
def lcacheDoesUptoRow : OpenClaim := { program := "ytiopmehaghcpfaa", sum := "1af24f08888ab2c97138462ec962e2a55ba437fd26cde4b28bb5a6af9ffe69f5", func := "socage/socagelaw16.LcacheDoes", spec := "lcacheDoes", unfollowed := true, recurses := true, apart := false, narrowed := true }
def LcacheDoesUptoSaid : Prop := lcacheDoesUptoRow.holds Try.pinned (OpenSpec.upto lcacheDoesSpec)

/-- 'socagelaw15.DcacheDoes', WHERE WHAT IT READS IS OF BULK AT MOST 1048576: true; the input reads as it did. -/
def dcacheDoesUptoRow : OpenClaim := { program := "ytiopmehaghcpfaa", sum := "1af24f08888ab2c97138462ec962e2a55ba437fd26cde4b28bb5a6af9ffe69f5", func := "socage/socagelaw15.DcacheDoes", spec := "dcacheDoes", apart := false, narrowed := true }
def DcacheDoesUptoSaid : Prop := dcacheDoesUptoRow.holds Try.pinned (OpenSpec.upto dcacheDoesSpec)

end Rows
end Go.Proofs.Ytiopmehaghcpfaa

/-
  No cell of these rows narrows 'for every input' (looked for: loops, veiled, ifaces, maps, wideKeys, modest, calm, conditions, laid).
  DERIVED. THE GIVEN ROWS OF THIS SEAT. 6 by the template 'for every input the law returns true; each argument reads behind the call as it read before'; 0 by the template 'total and deterministic' (their statements: YtdaedoklkmdhcaaTotals.lean).
  GIVEN WITH THE SEED: the statements are not yours to turn. If you find one false, say at which input.
  Laid BY PROGRAM, IN A SANDBOX (cutbox-rows.mjs): the forced cells as the released guide's own fill.sh prints them over the translation 12f3ed10ee279609… (all of the seat's roots in one cut). By AI agents, Wed Nov 11 2026. No macro, syntax, notation, axiom, sorry.
-/
import Derived.Test.YtdaedoklkmdhcaaChecked
import GoSem.Claim
import GoSem.ClaimJoined
import GoSem.ClaimMapViews
import Derived.JoinedTies
import Derived.KernelRfl
namespace Go.Proofs.Ytdaedoklkmdhcaa
/- THE CELL 'sum', in the pinned program and in every row, IS THE sha256 OF THE DUMP (.gsa) THAT YtdaedoklkmdhcaaProg.lean LOADS. Nothing in Lean hashes anything: it is a label: what it is worth is what the hold of that sum in a sandbox is worth. -/
noncomputable def Try.pinned : Pinned := { name := "ytdaedoklkmdhcaa", sum := "12f3ed10ee279609a0a650a42e140f80a80e8e8378b3bdc65428f817bf0b76d2", checked := Try.checked }
namespace Rows
def none {H : Type} : Left H := { results := [], args := [] }

/-- 'synodlaw11.KvOnce': WHATEVER THE INPUT: true; the input reads as it did. -/
def kvOnceSpec : ChangeSpec := { name := "kvOnce", fn := fun _ => fun
  | [d] => { results := [.lit (.bool true)], args := [d] }
  | _ => none }
def kvOnceRow : OpenClaim := { program := "ytdaedoklkmdhcaa", sum := "12f3ed10ee279609a0a650a42e140f80a80e8e8378b3bdc65428f817bf0b76d2", func := "synod/synodlaw11.KvOnce", spec := "kvOnce", inPlace := ["maps.clone"], unfollowed := true, recurses := true, apart := false }
def KvOnceSaid : Prop := kvOnceRow.holds Try.pinned (OpenSpec.ofChange kvOnceSpec)

/-- ITS FALSE NEIGHBOUR: 'it returns false'. Refute it at one input. -/
def kvOnceWrong : ChangeSpec := { name := "kvOnce", fn := fun _ => fun
  | [d] => { results := [.lit (.bool false)], args := [d] }
  | _ => none }
def KvOnceWrongFalsely : Prop := kvOnceRow.holds Try.pinned (OpenSpec.ofChange kvOnceWrong)

/-- 'synodlaw11.KvSeqs': WHATEVER THE INPUT: true; the input reads as it did. -/
def kvSeqsSpec : ChangeSpec := { name := "kvSeqs", fn := fun _ => fun
  | [d] => { results := [.lit (.bool true)], args := [d] }
  | _ => none }
def kvSeqsRow : OpenClaim := { program := "ytdaedoklkmdhcaa", sum := "12f3ed10ee279609a0a650a42e140f80a80e8e8378b3bdc65428f817bf0b76d2", func := "synod/synodlaw11.KvSeqs", spec := "kvSeqs", inPlace := ["maps.clone"], unfollowed := true, recurses := true, apart := false }
def KvSeqsSaid : Prop := kvSeqsRow.holds Try.pinned (OpenSpec.ofChange kvSeqsSpec)

/-- ITS FALSE NEIGHBOUR: 'it returns false'. Refute it at one input. -/
def kvSeqsWrong : ChangeSpec := { name := "kvSeqs", fn := fun _ => fun
  | [d] => { results := [.lit (.bool false)], args := [d] }
  | _ => none }
def KvSeqsWrongFalsely : Prop := kvSeqsRow.holds Try.pinned (OpenSpec.ofChange kvSeqsWrong)

/-- 'synodlaw11.KvPlays': WHATEVER THE INPUT: true; the input reads as it did. -/
def kvPlaysSpec : ChangeSpec := { name := "kvPlays", fn := fun _ => fun
  | [d1, d2, d3] => { results := [.lit (.bool true)], args := [d1, d2, d3] }
  | _ => none }
def kvPlaysRow : OpenClaim := { program := "ytdaedoklkmdhcaa", sum := "12f3ed10ee279609a0a650a42e140f80a80e8e8378b3bdc65428f817bf0b76d2", func := "synod/synodlaw11.KvPlays", spec := "kvPlays", inPlace := ["maps.clone"], unfollowed := true, recurses := true, apart := false }
def KvPlaysSaid : Prop := kvPlaysRow.holds Try.pinned (OpenSpec.ofChange kvPlaysSpec)

/-- ITS FALSE NEIGHBOUR: 'it returns false'. Refute it at one input. -/
def kvPlaysWrong : ChangeSpec := { name := "kvPlays", fn := fun _ => fun
  | [d1, d2, d3] => { results := [.lit (.bool false)], args := [d1, d2, d3] }
  | _ => none }
def KvPlaysWrongFalsely : Prop := kvPlaysRow.holds Try.pinned (OpenSpec.ofChange kvPlaysWrong)

/-- 'synodlaw11.KvFull': WHATEVER THE INPUT: true; the input reads as it did. -/
def kvFullSpec : ChangeSpec := { name := "kvFull", fn := fun _ => fun
  | [d1, d2, d3] => { results := [.lit (.bool true)], args := [d1, d2, d3] }
  | _ => none }
def kvFullRow : OpenClaim := { program := "ytdaedoklkmdhcaa", sum := "12f3ed10ee279609a0a650a42e140f80a80e8e8378b3bdc65428f817bf0b76d2", func := "synod/synodlaw11.KvFull", spec := "kvFull", inPlace := ["maps.clone"], unfollowed := true, recurses := true, apart := false }
def KvFullSaid : Prop := kvFullRow.holds Try.pinned (OpenSpec.ofChange kvFullSpec)

/-- ITS FALSE NEIGHBOUR: 'it returns false'. Refute it at one input. -/
def kvFullWrong : ChangeSpec := { name := "kvFull", fn := fun _ => fun
  | [d1, d2, d3] => { results := [.lit (.bool false)], args := [d1, d2, d3] }
  | _ => none }
def KvFullWrongFalsely : Prop := kvFullRow.holds Try.pinned (OpenSpec.ofChange kvFullWrong)

/-- 'synodlaw11.KvCommands': WHATEVER THE INPUT: true; the input reads as it did. -/
def kvCommandsSpec : ChangeSpec := { name := "kvCommands", fn := fun _ => fun
  | [d1, d2, d3] => { results := [.lit (.bool true)], args := [d1, d2, d3] }
  | _ => none }
def kvCommandsRow : OpenClaim := { program := "ytdaedoklkmdhcaa", sum := "12f3ed10ee279609a0a650a42e140f80a80e8e8378b3bdc65428f817bf0b76d2", func := "synod/synodlaw11.KvCommands", spec := "kvCommands", inPlace := ["maps.clone"], unfollowed := true, recurses := true, apart := false }
def KvCommandsSaid : Prop := kvCommandsRow.holds Try.pinned (OpenSpec.ofChange kvCommandsSpec)

/-- ITS FALSE NEIGHBOUR: 'it returns false'. Refute it at one input. -/
def kvCommandsWrong : ChangeSpec := { name := "kvCommands", fn := fun _ => fun
  | [d1, d2, d3] => { results := [.lit (.bool false)], args := [d1, d2, d3] }
  | _ => none }
def KvCommandsWrongFalsely : Prop := kvCommandsRow.holds Try.pinned (OpenSpec.ofChange kvCommandsWrong)

/-- 'synodlaw11.KvCommutes': WHATEVER THE INPUT: true; the input reads as it did. -/
def kvCommutesSpec : ChangeSpec := { name := "kvCommutes", fn := fun _ => fun
  | [d1, d2, d3] => { results := [.lit (.bool true)], args := [d1, d2, d3] }
  | _ => none }
def kvCommutesRow : OpenClaim := { program := "ytdaedoklkmdhcaa", sum := "12f3ed10ee279609a0a650a42e140f80a80e8e8378b3bdc65428f817bf0b76d2", func := "synod/synodlaw11.KvCommutes", spec := "kvCommutes", inPlace := ["maps.clone"], unfollowed := true, recurses := true, apart := false }
def KvCommutesSaid : Prop := kvCommutesRow.holds Try.pinned (OpenSpec.ofChange kvCommutesSpec)

/-- ITS FALSE NEIGHBOUR: 'it returns false'. Refute it at one input. -/
def kvCommutesWrong : ChangeSpec := { name := "kvCommutes", fn := fun _ => fun
  | [d1, d2, d3] => { results := [.lit (.bool false)], args := [d1, d2, d3] }
  | _ => none }
def KvCommutesWrongFalsely : Prop := kvCommutesRow.holds Try.pinned (OpenSpec.ofChange kvCommutesWrong)

/- THE SECOND FORM. 'bulk': how many values and letters a reading holds, each counted each time it is reached (what is shared counts as often as it is met; a slice's spare places count too). A statement '..UptoSaid' is the law's where the arguments, and the package variables that the reading takes, are together of bulk at most 1048576: NARROWER than '..Said'. Prove '..Said' where nothing that the law and all that it calls make is longer than what came in: it says more and counts as full. Else prove '..UptoSaid'. A law counts once. -/
mutual
def uptoBulk {H : Type} : DataW H → Nat
  | .lit (.string bytes) => bytes.length + 1
  | .lit _ => 1
  | .nil => 1
  | .ptr d => uptoBulk d + 1
  | .slice elems spare => uptoBulkAll elems + uptoBulkAll spare + 1
  | .agg parts => uptoBulkAll parts + 1
  | .iface _ d => uptoBulk d + 1
  | .map entries => uptoBulkEntries entries + 1
  | .held _ => 1
def uptoBulkAll {H : Type} : List (DataW H) → Nat
  | [] => 0
  | d :: r => uptoBulk d + uptoBulkAll r
def uptoBulkEntries {H : Type} : List (Lit × DataW H) → Nat
  | [] => 0
  | x :: r => uptoBulkEntry x + uptoBulkEntries r
def uptoBulkEntry {H : Type} : Lit × DataW H → Nat
  | (.string bytes, d) => bytes.length + uptoBulk d + 1
  | (_, d) => uptoBulk d + 1
 end
def uptoSmall : (H : Type) → List (DataW H) → Bool := fun _ ds => decide (uptoBulkAll ds ≤ 1048576)
def OpenSpec.upto (s : _root_.Go.ChangeSpec) : _root_.Go.OpenSpec := { _root_.Go.OpenSpec.ofChange s with cond := some uptoSmall }

/-- 'synodlaw11.KvOnce', WHERE WHAT IT READS IS OF BULK AT MOST 1048576: true; the input reads as it did. -/
def kvOnceUptoRow : OpenClaim := { program := "ytdaedoklkmdhcaa", sum := "12f3ed10ee279609a0a650a42e140f80a80e8e8378b3bdc65428f817bf0b76d2", func := "synod/synodlaw11.KvOnce", spec := "kvOnce", inPlace := ["maps.clone"], unfollowed := true, recurses := true, apart := false, narrowed := true }
def KvOnceUptoSaid : Prop := kvOnceUptoRow.holds Try.pinned (OpenSpec.upto kvOnceSpec)

/-- 'synodlaw11.KvSeqs', WHERE WHAT IT READS IS OF BULK AT MOST 1048576: true; the input reads as it did. -/
def kvSeqsUptoRow : OpenClaim := { program := "ytdaedoklkmdhcaa", sum := "12f3ed10ee279609a0a650a42e140f80a80e8e8378b3bdc65428f817bf0b76d2", func := "synod/synodlaw11.KvSeqs", spec := "kvSeqs", inPlace := ["maps.clone"], unfollowed := true, recurses := true, apart := false, narrowed := true }
def KvSeqsUptoSaid : Prop := kvSeqsUptoRow.holds Try.pinned (OpenSpec.upto kvSeqsSpec)

/-- 'synodlaw11.KvPlays', WHERE WHAT IT READS IS OF BULK AT MOST 1048576: true; the input reads as it did. -/
def kvPlaysUptoRow : OpenClaim := { program := "ytdaedoklkmdhcaa", sum := "12f3ed10ee279609a0a650a42e140f80a80e8e8378b3bdc65428f817bf0b76d2", func := "synod/synodlaw11.KvPlays", spec := "kvPlays", inPlace := ["maps.clone"], unfollowed := true, recurses := true, apart := false, narrowed := true }
def KvPlaysUptoSaid : Prop := kvPlaysUptoRow.holds Try.pinned (OpenSpec.upto kvPlaysSpec)

/-- 'synodlaw11.KvFull', WHERE WHAT IT READS IS OF BULK AT MOST 1048576: true; the input reads as it did. -/
def kvFullUptoRow : OpenClaim := { program := "ytdaedoklkmdhcaa", sum := "12f3ed10ee279609a0a650a42e140f80a80e8e8378b3bdc65428f817bf0b76d2", func := "synod/synodlaw11.KvFull", spec := "kvFull", inPlace := ["maps.clone"], unfollowed := true, recurses := true, apart := false, narrowed := true }
def KvFullUptoSaid : Prop := kvFullUptoRow.holds Try.pinned (OpenSpec.upto kvFullSpec)

/-- 'synodlaw11.KvCommands', WHERE WHAT IT READS IS OF BULK AT MOST 1048576: true; the input reads as it did. -/
def kvCommandsUptoRow : OpenClaim := { program := "ytdaedoklkmdhcaa", sum := "12f3ed10ee279609a0a650a42e140f80a80e8e8378b3bdc65428f817bf0b76d2", func := "synod/synodlaw11.KvCommands", spec := "kvCommands", inPlace := ["maps.clone"], unfollowed := true, recurses := true, apart := false, narrowed := true }
def KvCommandsUptoSaid : Prop := kvCommandsUptoRow.holds Try.pinned (OpenSpec.upto kvCommandsSpec)

/-- 'synodlaw11.KvCommutes', WHERE WHAT IT READS IS OF BULK AT MOST 1048576: true; the input reads as it did. -/
def kvCommutesUptoRow : OpenClaim := { program := "ytdaedoklkmdhcaa", sum := "12f3ed10ee279609a0a650a42e140f80a80e8e8378b3bdc65428f817bf0b76d2", func := "synod/synodlaw11.KvCommutes", spec := "kvCommutes", inPlace := ["maps.clone"], unfollowed := true, recurses := true, apart := false, narrowed := true }
def KvCommutesUptoSaid : Prop := kvCommutesUptoRow.holds Try.pinned (OpenSpec.upto kvCommutesSpec)

end Rows
end Go.Proofs.Ytdaedoklkmdhcaa

/-
  No cell of these rows narrows 'for every input' (looked for: loops, veiled, ifaces, maps, wideKeys, modest, calm, conditions, laid).
  DERIVED. THE GIVEN ROWS OF THIS SEAT. 11 by the template 'for every input the law returns true; each argument reads behind the call as it read before'; 0 by the template 'total and deterministic' (their statements: YtdoghfenhoigmaaTotals.lean).
  GIVEN WITH THE SEED: the statements are not yours to turn. If you find one false, say at which input.
  Laid BY PROGRAM, IN A SANDBOX (cutbox-rows.mjs): the forced cells as the released guide's own fill.sh prints them over the translation 6403f453a5e588a2… (all of the seat's roots in one cut). By AI agents, Wed Nov 11 2026. No macro, syntax, notation, axiom, sorry.
-/
import Derived.Test.YtdoghfenhoigmaaChecked
import GoSem.Claim
import GoSem.ClaimJoined
import GoSem.ClaimMapViews
import Derived.JoinedTies
import Derived.KernelRfl
namespace Go.Proofs.Ytdoghfenhoigmaa
/- THE CELL 'sum', in the pinned program and in every row, IS THE sha256 OF THE DUMP (.gsa) THAT YtdoghfenhoigmaaProg.lean LOADS. Nothing in Lean hashes anything: it is a label: what it is worth is what the hold of that sum in a sandbox is worth. -/
noncomputable def Try.pinned : Pinned := { name := "ytdoghfenhoigmaa", sum := "6403f453a5e588a27d8857ae3954b8eb40956ac6c4763fdbcecc54c919f5d77b", checked := Try.checked }
namespace Rows
def none {H : Type} : Left H := { results := [], args := [] }

/-- 'synodlaw3.CodecSames': WHATEVER THE INPUT: true; the input reads as it did. -/
def codecSamesSpec : ChangeSpec := { name := "codecSames", fn := fun _ => fun
  | [d1, d2, d3, d4, d5, d6] => { results := [.lit (.bool true)], args := [d1, d2, d3, d4, d5, d6] }
  | _ => none }
def codecSamesRow : OpenClaim := { program := "ytdoghfenhoigmaa", sum := "6403f453a5e588a27d8857ae3954b8eb40956ac6c4763fdbcecc54c919f5d77b", func := "synod/synodlaw3.CodecSames", spec := "codecSames", unfollowed := true, recurses := true, apart := false }
def CodecSamesSaid : Prop := codecSamesRow.holds Try.pinned (OpenSpec.ofChange codecSamesSpec)

/-- ITS FALSE NEIGHBOUR: 'it returns false'. Refute it at one input. -/
def codecSamesWrong : ChangeSpec := { name := "codecSames", fn := fun _ => fun
  | [d1, d2, d3, d4, d5, d6] => { results := [.lit (.bool false)], args := [d1, d2, d3, d4, d5, d6] }
  | _ => none }
def CodecSamesWrongFalsely : Prop := codecSamesRow.holds Try.pinned (OpenSpec.ofChange codecSamesWrong)

/-- 'synodlaw3.CodecStates': WHATEVER THE INPUT: true; the input reads as it did. -/
def codecStatesSpec : ChangeSpec := { name := "codecStates", fn := fun _ => fun
  | [d1, d2] => { results := [.lit (.bool true)], args := [d1, d2] }
  | _ => none }
def codecStatesRow : OpenClaim := { program := "ytdoghfenhoigmaa", sum := "6403f453a5e588a27d8857ae3954b8eb40956ac6c4763fdbcecc54c919f5d77b", func := "synod/synodlaw3.CodecStates", spec := "codecStates", unfollowed := true, recurses := true, apart := false }
def CodecStatesSaid : Prop := codecStatesRow.holds Try.pinned (OpenSpec.ofChange codecStatesSpec)

/-- ITS FALSE NEIGHBOUR: 'it returns false'. Refute it at one input. -/
def codecStatesWrong : ChangeSpec := { name := "codecStates", fn := fun _ => fun
  | [d1, d2] => { results := [.lit (.bool false)], args := [d1, d2] }
  | _ => none }
def CodecStatesWrongFalsely : Prop := codecStatesRow.holds Try.pinned (OpenSpec.ofChange codecStatesWrong)

/-- 'synodlaw3.CodecEntries': WHATEVER THE INPUT: true; the input reads as it did. -/
def codecEntriesSpec : ChangeSpec := { name := "codecEntries", fn := fun _ => fun
  | [d1, d2] => { results := [.lit (.bool true)], args := [d1, d2] }
  | _ => none }
def codecEntriesRow : OpenClaim := { program := "ytdoghfenhoigmaa", sum := "6403f453a5e588a27d8857ae3954b8eb40956ac6c4763fdbcecc54c919f5d77b", func := "synod/synodlaw3.CodecEntries", spec := "codecEntries", unfollowed := true, recurses := true, apart := false }
def CodecEntriesSaid : Prop := codecEntriesRow.holds Try.pinned (OpenSpec.ofChange codecEntriesSpec)

/-- ITS FALSE NEIGHBOUR: 'it returns false'. Refute it at one input. -/
def codecEntriesWrong : ChangeSpec := { name := "codecEntries", fn := fun _ => fun
  | [d1, d2] => { results := [.lit (.bool false)], args := [d1, d2] }
  | _ => none }
def CodecEntriesWrongFalsely : Prop := codecEntriesRow.holds Try.pinned (OpenSpec.ofChange codecEntriesWrong)

/-- 'synodlaw3.CodecSnaps': WHATEVER THE INPUT: true; the input reads as it did. -/
def codecSnapsSpec : ChangeSpec := { name := "codecSnaps", fn := fun _ => fun
  | [d1, d2] => { results := [.lit (.bool true)], args := [d1, d2] }
  | _ => none }
def codecSnapsRow : OpenClaim := { program := "ytdoghfenhoigmaa", sum := "6403f453a5e588a27d8857ae3954b8eb40956ac6c4763fdbcecc54c919f5d77b", func := "synod/synodlaw3.CodecSnaps", spec := "codecSnaps", unfollowed := true, recurses := true, apart := false }
def CodecSnapsSaid : Prop := codecSnapsRow.holds Try.pinned (OpenSpec.ofChange codecSnapsSpec)

/-- ITS FALSE NEIGHBOUR: 'it returns false'. Refute it at one input. -/
def codecSnapsWrong : ChangeSpec := { name := "codecSnaps", fn := fun _ => fun
  | [d1, d2] => { results := [.lit (.bool false)], args := [d1, d2] }
  | _ => none }
def CodecSnapsWrongFalsely : Prop := codecSnapsRow.holds Try.pinned (OpenSpec.ofChange codecSnapsWrong)

/-- 'synodlaw3.CodecReplies': WHATEVER THE INPUT: true; the input reads as it did. -/
def codecRepliesSpec : ChangeSpec := { name := "codecReplies", fn := fun _ => fun
  | [d1, d2] => { results := [.lit (.bool true)], args := [d1, d2] }
  | _ => none }
def codecRepliesRow : OpenClaim := { program := "ytdoghfenhoigmaa", sum := "6403f453a5e588a27d8857ae3954b8eb40956ac6c4763fdbcecc54c919f5d77b", func := "synod/synodlaw3.CodecReplies", spec := "codecReplies", unfollowed := true, recurses := true, apart := false }
def CodecRepliesSaid : Prop := codecRepliesRow.holds Try.pinned (OpenSpec.ofChange codecRepliesSpec)

/-- ITS FALSE NEIGHBOUR: 'it returns false'. Refute it at one input. -/
def codecRepliesWrong : ChangeSpec := { name := "codecReplies", fn := fun _ => fun
  | [d1, d2] => { results := [.lit (.bool false)], args := [d1, d2] }
  | _ => none }
def CodecRepliesWrongFalsely : Prop := codecRepliesRow.holds Try.pinned (OpenSpec.ofChange codecRepliesWrong)

/-- 'synodlaw3.CodecCommands': WHATEVER THE INPUT: true; the input reads as it did. -/
def codecCommandsSpec : ChangeSpec := { name := "codecCommands", fn := fun _ => fun
  | [d1, d2] => { results := [.lit (.bool true)], args := [d1, d2] }
  | _ => none }
def codecCommandsRow : OpenClaim := { program := "ytdoghfenhoigmaa", sum := "6403f453a5e588a27d8857ae3954b8eb40956ac6c4763fdbcecc54c919f5d77b", func := "synod/synodlaw3.CodecCommands", spec := "codecCommands", unfollowed := true, recurses := true, apart := false }
def CodecCommandsSaid : Prop := codecCommandsRow.holds Try.pinned (OpenSpec.ofChange codecCommandsSpec)

/-- ITS FALSE NEIGHBOUR: 'it returns false'. Refute it at one input. -/
def codecCommandsWrong : ChangeSpec := { name := "codecCommands", fn := fun _ => fun
  | [d1, d2] => { results := [.lit (.bool false)], args := [d1, d2] }
  | _ => none }
def CodecCommandsWrongFalsely : Prop := codecCommandsRow.holds Try.pinned (OpenSpec.ofChange codecCommandsWrong)

/-- 'synodlaw3.CodecMessages': WHATEVER THE INPUT: true; the input reads as it did. -/
def codecMessagesSpec : ChangeSpec := { name := "codecMessages", fn := fun _ => fun
  | [d1, d2] => { results := [.lit (.bool true)], args := [d1, d2] }
  | _ => none }
def codecMessagesRow : OpenClaim := { program := "ytdoghfenhoigmaa", sum := "6403f453a5e588a27d8857ae3954b8eb40956ac6c4763fdbcecc54c919f5d77b", func := "synod/synodlaw3.CodecMessages", spec := "codecMessages", unfollowed := true, recurses := true, apart := false }
def CodecMessagesSaid : Prop := codecMessagesRow.holds Try.pinned (OpenSpec.ofChange codecMessagesSpec)

/-- ITS FALSE NEIGHBOUR: 'it returns false'. Refute it at one input. -/
def codecMessagesWrong : ChangeSpec := { name := "codecMessages", fn := fun _ => fun
  | [d1, d2] => { results := [.lit (.bool false)], args := [d1, d2] }
  | _ => none }
def CodecMessagesWrongFalsely : Prop := codecMessagesRow.holds Try.pinned (OpenSpec.ofChange codecMessagesWrong)

/-- 'synodlaw3.CodecBack': WHATEVER THE INPUT: true; the input reads as it did. -/
def codecBackSpec : ChangeSpec := { name := "codecBack", fn := fun _ => fun
  | [d1, d2] => { results := [.lit (.bool true)], args := [d1, d2] }
  | _ => none }
def codecBackRow : OpenClaim := { program := "ytdoghfenhoigmaa", sum := "6403f453a5e588a27d8857ae3954b8eb40956ac6c4763fdbcecc54c919f5d77b", func := "synod/synodlaw3.CodecBack", spec := "codecBack", unfollowed := true, recurses := true, apart := false }
def CodecBackSaid : Prop := codecBackRow.holds Try.pinned (OpenSpec.ofChange codecBackSpec)

/-- ITS FALSE NEIGHBOUR: 'it returns false'. Refute it at one input. -/
def codecBackWrong : ChangeSpec := { name := "codecBack", fn := fun _ => fun
  | [d1, d2] => { results := [.lit (.bool false)], args := [d1, d2] }
  | _ => none }
def CodecBackWrongFalsely : Prop := codecBackRow.holds Try.pinned (OpenSpec.ofChange codecBackWrong)

/-- 'synodlaw3.CodecOne': WHATEVER THE INPUT: true; the input reads as it did. -/
def codecOneSpec : ChangeSpec := { name := "codecOne", fn := fun _ => fun
  | [d1, d2, d3, d4] => { results := [.lit (.bool true)], args := [d1, d2, d3, d4] }
  | _ => none }
def codecOneRow : OpenClaim := { program := "ytdoghfenhoigmaa", sum := "6403f453a5e588a27d8857ae3954b8eb40956ac6c4763fdbcecc54c919f5d77b", func := "synod/synodlaw3.CodecOne", spec := "codecOne", unfollowed := true, recurses := true, apart := false }
def CodecOneSaid : Prop := codecOneRow.holds Try.pinned (OpenSpec.ofChange codecOneSpec)

/-- ITS FALSE NEIGHBOUR: 'it returns false'. Refute it at one input. -/
def codecOneWrong : ChangeSpec := { name := "codecOne", fn := fun _ => fun
  | [d1, d2, d3, d4] => { results := [.lit (.bool false)], args := [d1, d2, d3, d4] }
  | _ => none }
def CodecOneWrongFalsely : Prop := codecOneRow.holds Try.pinned (OpenSpec.ofChange codecOneWrong)

/-- 'synodlaw3.CodecLists': WHATEVER THE INPUT: true; the input reads as it did. -/
def codecListsSpec : ChangeSpec := { name := "codecLists", fn := fun _ => fun
  | [d1, d2, d3] => { results := [.lit (.bool true)], args := [d1, d2, d3] }
  | _ => none }
def codecListsRow : OpenClaim := { program := "ytdoghfenhoigmaa", sum := "6403f453a5e588a27d8857ae3954b8eb40956ac6c4763fdbcecc54c919f5d77b", func := "synod/synodlaw3.CodecLists", spec := "codecLists", unfollowed := true, recurses := true, apart := false }
def CodecListsSaid : Prop := codecListsRow.holds Try.pinned (OpenSpec.ofChange codecListsSpec)

/-- ITS FALSE NEIGHBOUR: 'it returns false'. Refute it at one input. -/
def codecListsWrong : ChangeSpec := { name := "codecLists", fn := fun _ => fun
  | [d1, d2, d3] => { results := [.lit (.bool false)], args := [d1, d2, d3] }
  | _ => none }
def CodecListsWrongFalsely : Prop := codecListsRow.holds Try.pinned (OpenSpec.ofChange codecListsWrong)

/-- 'synodlaw3.CodecTexts': WHATEVER THE INPUT: true; the input reads as it did. -/
def codecTextsSpec : ChangeSpec := { name := "codecTexts", fn := fun _ => fun
  | [d1, d2] => { results := [.lit (.bool true)], args := [d1, d2] }
  | _ => none }
def codecTextsRow : OpenClaim := { program := "ytdoghfenhoigmaa", sum := "6403f453a5e588a27d8857ae3954b8eb40956ac6c4763fdbcecc54c919f5d77b", func := "synod/synodlaw3.CodecTexts", spec := "codecTexts", unfollowed := true, recurses := true, apart := false }
def CodecTextsSaid : Prop := codecTextsRow.holds Try.pinned (OpenSpec.ofChange codecTextsSpec)

/-- ITS FALSE NEIGHBOUR: 'it returns false'. Refute it at one input. -/
def codecTextsWrong : ChangeSpec := { name := "codecTexts", fn := fun _ => fun
  | [d1, d2] => { results := [.lit (.bool false)], args := [d1, d2] }
  | _ => none }
def CodecTextsWrongFalsely : Prop := codecTextsRow.holds Try.pinned (OpenSpec.ofChange codecTextsWrong)

/- THE SECOND FORM. 'bulk': how many values and letters a reading holds, each counted each time it is reached (what is shared counts as often as it is met; a slice's spare places count too). A statement '..UptoSaid' is the law's where the arguments, and the package variables that the reading takes, are together of bulk at most 1048576: NARROWER than '..Said'. Prove '..Said' where nothing that the law and all that it calls make is longer than what came in: it says more and counts as full. Else prove '..UptoSaid'. A law counts once. -/
mutual
def uptoBulk {H : Type} : DataW H → Nat
  | .lit (.string bytes) => bytes.length + 1
  | .lit _ => 1
  | .nil => 1
  | .ptr d => uptoBulk d + 1
  | .slice elems spare => uptoBulkAll elems + uptoBulkAll spare + 1
  | .agg parts => uptoBulkAll parts + 1
  | .iface _ d => uptoBulk d + 1
  | .map entries => uptoBulkEntries entries + 1
  | .held _ => 1
def uptoBulkAll {H : Type} : List (DataW H) → Nat
  | [] => 0
  | d :: r => uptoBulk d + uptoBulkAll r
def uptoBulkEntries {H : Type} : List (Lit × DataW H) → Nat
  | [] => 0
  | x :: r => uptoBulkEntry x + uptoBulkEntries r
def uptoBulkEntry {H : Type} : Lit × DataW H → Nat
  | (.string bytes, d) => bytes.length + uptoBulk d + 1
  | (_, d) => uptoBulk d + 1
 end
def uptoSmall : (H : Type) → List (DataW H) → Bool := fun _ ds => decide (uptoBulkAll ds ≤ 1048576)
def OpenSpec.upto (s : _root_.Go.ChangeSpec) : _root_.Go.OpenSpec := { _root_.Go.OpenSpec.ofChange s with cond := some uptoSmall }

/-- 'synodlaw3.CodecSames', WHERE WHAT IT READS IS OF BULK AT MOST 1048576: true; the input reads as it did. -/
def codecSamesUptoRow : OpenClaim := { program := "ytdoghfenhoigmaa", sum := "6403f453a5e588a27d8857ae3954b8eb40956ac6c4763fdbcecc54c919f5d77b", func := "synod/synodlaw3.CodecSames", spec := "codecSames", unfollowed := true, recurses := true, apart := false, narrowed := true }
def CodecSamesUptoSaid : Prop := codecSamesUptoRow.holds Try.pinned (OpenSpec.upto codecSamesSpec)

/-- 'synodlaw3.CodecStates', WHERE WHAT IT READS IS OF BULK AT MOST 1048576: true; the input reads as it did. -/
def codecStatesUptoRow : OpenClaim := { program := "ytdoghfenhoigmaa", sum := "6403f453a5e588a27d8857ae3954b8eb40956ac6c4763fdbcecc54c919f5d77b", func := "synod/synodlaw3.CodecStates", spec := "codecStates", unfollowed := true, recurses := true, apart := false, narrowed := true }
def CodecStatesUptoSaid : Prop := codecStatesUptoRow.holds Try.pinned (OpenSpec.upto codecStatesSpec)

/-- 'synodlaw3.CodecEntries', WHERE WHAT IT READS IS OF BULK AT MOST 1048576: true; the input reads as it did. -/
def codecEntriesUptoRow : OpenClaim := { program := "ytdoghfenhoigmaa", sum := "6403f453a5e588a27d8857ae3954b8eb40956ac6c4763fdbcecc54c919f5d77b", func := "synod/synodlaw3.CodecEntries", spec := "codecEntries", unfollowed := true, recurses := true, apart := false, narrowed := true }
def CodecEntriesUptoSaid : Prop := codecEntriesUptoRow.holds Try.pinned (OpenSpec.upto codecEntriesSpec)

/-- 'synodlaw3.CodecSnaps', WHERE WHAT IT READS IS OF BULK AT MOST 1048576: true; the input reads as it did. -/
def codecSnapsUptoRow : OpenClaim := { program := "ytdoghfenhoigmaa", sum := "6403f453a5e588a27d8857ae3954b8eb40956ac6c4763fdbcecc54c919f5d77b", func := "synod/synodlaw3.CodecSnaps", spec := "codecSnaps", unfollowed := true, recurses := true, apart := false, narrowed := true }
def CodecSnapsUptoSaid : Prop := codecSnapsUptoRow.holds Try.pinned (OpenSpec.upto codecSnapsSpec)

/-- 'synodlaw3.CodecReplies', WHERE WHAT IT READS IS OF BULK AT MOST 1048576: true; the input reads as it did. -/
def codecRepliesUptoRow : OpenClaim := { program := "ytdoghfenhoigmaa", sum := "6403f453a5e588a27d8857ae3954b8eb40956ac6c4763fdbcecc54c919f5d77b", func := "synod/synodlaw3.CodecReplies", spec := "codecReplies", unfollowed := true, recurses := true, apart := false, narrowed := true }
def CodecRepliesUptoSaid : Prop := codecRepliesUptoRow.holds Try.pinned (OpenSpec.upto codecRepliesSpec)

/-- 'synodlaw3.CodecCommands', WHERE WHAT IT READS IS OF BULK AT MOST 1048576: true; the input reads as it did. -/
def codecCommandsUptoRow : OpenClaim := { program := "ytdoghfenhoigmaa", sum := "6403f453a5e588a27d8857ae3954b8eb40956ac6c4763fdbcecc54c919f5d77b", func := "synod/synodlaw3.CodecCommands", spec := "codecCommands", unfollowed := true, recurses := true, apart := false, narrowed := true }
def CodecCommandsUptoSaid : Prop := codecCommandsUptoRow.holds Try.pinned (OpenSpec.upto codecCommandsSpec)

/-- 'synodlaw3.CodecMessages', WHERE WHAT IT READS IS OF BULK AT MOST 1048576: true; the input reads as it did. -/
def codecMessagesUptoRow : OpenClaim := { program := "ytdoghfenhoigmaa", sum := "6403f453a5e588a27d8857ae3954b8eb40956ac6c4763fdbcecc54c919f5d77b", func := "synod/synodlaw3.CodecMessages", spec := "codecMessages", unfollowed := true, recurses := true, apart := false, narrowed := true }
def CodecMessagesUptoSaid : Prop := codecMessagesUptoRow.holds Try.pinned (OpenSpec.upto codecMessagesSpec)

/-- 'synodlaw3.CodecBack', WHERE WHAT IT READS IS OF BULK AT MOST 1048576: true; the input reads as it did. -/
def codecBackUptoRow : OpenClaim := { program := "ytdoghfenhoigmaa", sum := "6403f453a5e588a27d8857ae3954b8eb40956ac6c4763fdbcecc54c919f5d77b", func := "synod/synodlaw3.CodecBack", spec := "codecBack", unfollowed := true, recurses := true, apart := false, narrowed := true }
def CodecBackUptoSaid : Prop := codecBackUptoRow.holds Try.pinned (OpenSpec.upto codecBackSpec)

/-- 'synodlaw3.CodecOne', WHERE WHAT IT READS IS OF BULK AT MOST 1048576: true; the input reads as it did. -/
def codecOneUptoRow : OpenClaim := { program := "ytdoghfenhoigmaa", sum := "6403f453a5e588a27d8857ae3954b8eb40956ac6c4763fdbcecc54c919f5d77b", func := "synod/synodlaw3.CodecOne", spec := "codecOne", unfollowed := true, recurses := true, apart := false, narrowed := true }
def CodecOneUptoSaid : Prop := codecOneUptoRow.holds Try.pinned (OpenSpec.upto codecOneSpec)

/-- 'synodlaw3.CodecLists', WHERE WHAT IT READS IS OF BULK AT MOST 1048576: true; the input reads as it did. -/
def codecListsUptoRow : OpenClaim := { program := "ytdoghfenhoigmaa", sum := "6403f453a5e588a27d8857ae3954b8eb40956ac6c4763fdbcecc54c919f5d77b", func := "synod/synodlaw3.CodecLists", spec := "codecLists", unfollowed := true, recurses := true, apart := false, narrowed := true }
def CodecListsUptoSaid : Prop := codecListsUptoRow.holds Try.pinned (OpenSpec.upto codecListsSpec)

/-- 'synodlaw3.CodecTexts', WHERE WHAT IT READS IS OF BULK AT MOST 1048576: true; the input reads as it did. -/
def codecTextsUptoRow : OpenClaim := { program := "ytdoghfenhoigmaa", sum := "6403f453a5e588a27d8857ae3954b8eb40956ac6c4763fdbcecc54c919f5d77b", func := "synod/synodlaw3.CodecTexts", spec := "codecTexts", unfollowed := true, recurses := true, apart := false, narrowed := true }
def CodecTextsUptoSaid : Prop := codecTextsUptoRow.holds Try.pinned (OpenSpec.upto codecTextsSpec)

end Rows
end Go.Proofs.Ytdoghfenhoigmaa

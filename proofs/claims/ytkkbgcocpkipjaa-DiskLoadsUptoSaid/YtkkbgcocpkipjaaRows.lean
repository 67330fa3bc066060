/-
  No cell of these rows narrows 'for every input' (looked for: loops, veiled, ifaces, maps, wideKeys, modest, calm, conditions, laid).
  DERIVED. THE GIVEN ROWS OF THIS SEAT. 6 by the template 'for every input the law returns true; each argument reads behind the call as it read before'; 0 by the template 'total and deterministic' (their statements: YtkkbgcocpkipjaaTotals.lean).
  GIVEN WITH THE SEED: the statements are not yours to turn. If you find one false, say at which input.
  Laid BY PROGRAM, IN A SANDBOX (cutbox-rows.mjs): the forced cells as the released guide's own fill.sh prints them over the translation f4befae5a7d0a343… (all of the seat's roots in one cut). By AI agents, Wed Nov 11 2026. No macro, syntax, notation, axiom, sorry.
-/
import Derived.Test.YtkkbgcocpkipjaaChecked
import GoSem.Claim
import GoSem.ClaimJoined
import GoSem.ClaimMapViews
import Derived.JoinedTies
import Derived.KernelRfl
namespace Go.Proofs.Ytkkbgcocpkipjaa
/- THE CELL 'sum', in the pinned program and in every row, IS THE sha256 OF THE DUMP (.gsa) THAT YtkkbgcocpkipjaaProg.lean LOADS. Nothing in Lean hashes anything: it is a label: what it is worth is what the hold of that sum in a sandbox is worth. -/
noncomputable def Try.pinned : Pinned := { name := "ytkkbgcocpkipjaa", sum := "f4befae5a7d0a343836fbcabea1912f6debb454067af3e07319aafe8bcef2082", checked := Try.checked }
namespace Rows
def none {H : Type} : Left H := { results := [], args := [] }

/-- 'synodlaw4.DiskFull': WHATEVER THE INPUT: true; the input reads as it did. -/
def diskFullSpec : ChangeSpec := { name := "diskFull", fn := fun _ => fun
  | [d1, d2] => { results := [.lit (.bool true)], args := [d1, d2] }
  | _ => none }
def diskFullRow : OpenClaim := { program := "ytkkbgcocpkipjaa", sum := "f4befae5a7d0a343836fbcabea1912f6debb454067af3e07319aafe8bcef2082", func := "synod/synodlaw4.DiskFull", spec := "diskFull", unfollowed := true, recurses := true, apart := false }
def DiskFullSaid : Prop := diskFullRow.holds Try.pinned (OpenSpec.ofChange diskFullSpec)

/-- ITS FALSE NEIGHBOUR: 'it returns false'. Refute it at one input. -/
def diskFullWrong : ChangeSpec := { name := "diskFull", fn := fun _ => fun
  | [d1, d2] => { results := [.lit (.bool false)], args := [d1, d2] }
  | _ => none }
def DiskFullWrongFalsely : Prop := diskFullRow.holds Try.pinned (OpenSpec.ofChange diskFullWrong)

/-- 'synodlaw4.DiskDurable': WHATEVER THE INPUT: true; the input reads as it did. -/
def diskDurableSpec : ChangeSpec := { name := "diskDurable", fn := fun _ => fun
  | [d1, d2, d3] => { results := [.lit (.bool true)], args := [d1, d2, d3] }
  | _ => none }
def diskDurableRow : OpenClaim := { program := "ytkkbgcocpkipjaa", sum := "f4befae5a7d0a343836fbcabea1912f6debb454067af3e07319aafe8bcef2082", func := "synod/synodlaw4.DiskDurable", spec := "diskDurable", unfollowed := true, recurses := true, apart := false }
def DiskDurableSaid : Prop := diskDurableRow.holds Try.pinned (OpenSpec.ofChange diskDurableSpec)

/-- ITS FALSE NEIGHBOUR: 'it returns false'. Refute it at one input. -/
def diskDurableWrong : ChangeSpec := { name := "diskDurable", fn := fun _ => fun
  | [d1, d2, d3] => { results := [.lit (.bool false)], args := [d1, d2, d3] }
  | _ => none }
def DiskDurableWrongFalsely : Prop := diskDurableRow.holds Try.pinned (OpenSpec.ofChange diskDurableWrong)

/-- 'synodlaw4.DiskTwo': WHATEVER THE INPUT: true; the input reads as it did. -/
def diskTwoSpec : ChangeSpec := { name := "diskTwo", fn := fun _ => fun
  | [d1, d2] => { results := [.lit (.bool true)], args := [d1, d2] }
  | _ => none }
def diskTwoRow : OpenClaim := { program := "ytkkbgcocpkipjaa", sum := "f4befae5a7d0a343836fbcabea1912f6debb454067af3e07319aafe8bcef2082", func := "synod/synodlaw4.DiskTwo", spec := "diskTwo", unfollowed := true, recurses := true, apart := false }
def DiskTwoSaid : Prop := diskTwoRow.holds Try.pinned (OpenSpec.ofChange diskTwoSpec)

/-- ITS FALSE NEIGHBOUR: 'it returns false'. Refute it at one input. -/
def diskTwoWrong : ChangeSpec := { name := "diskTwo", fn := fun _ => fun
  | [d1, d2] => { results := [.lit (.bool false)], args := [d1, d2] }
  | _ => none }
def DiskTwoWrongFalsely : Prop := diskTwoRow.holds Try.pinned (OpenSpec.ofChange diskTwoWrong)

/-- 'synodlaw4.DiskPlays': WHATEVER THE INPUT: true; the input reads as it did. -/
def diskPlaysSpec : ChangeSpec := { name := "diskPlays", fn := fun _ => fun
  | [d] => { results := [.lit (.bool true)], args := [d] }
  | _ => none }
def diskPlaysRow : OpenClaim := { program := "ytkkbgcocpkipjaa", sum := "f4befae5a7d0a343836fbcabea1912f6debb454067af3e07319aafe8bcef2082", func := "synod/synodlaw4.DiskPlays", spec := "diskPlays", unfollowed := true, recurses := true, apart := false }
def DiskPlaysSaid : Prop := diskPlaysRow.holds Try.pinned (OpenSpec.ofChange diskPlaysSpec)

/-- ITS FALSE NEIGHBOUR: 'it returns false'. Refute it at one input. -/
def diskPlaysWrong : ChangeSpec := { name := "diskPlays", fn := fun _ => fun
  | [d] => { results := [.lit (.bool false)], args := [d] }
  | _ => none }
def DiskPlaysWrongFalsely : Prop := diskPlaysRow.holds Try.pinned (OpenSpec.ofChange diskPlaysWrong)

/-- 'synodlaw4.DiskLoaded': WHATEVER THE INPUT: true; the input reads as it did. -/
def diskLoadedSpec : ChangeSpec := { name := "diskLoaded", fn := fun _ => fun
  | [d1, d2] => { results := [.lit (.bool true)], args := [d1, d2] }
  | _ => none }
def diskLoadedRow : OpenClaim := { program := "ytkkbgcocpkipjaa", sum := "f4befae5a7d0a343836fbcabea1912f6debb454067af3e07319aafe8bcef2082", func := "synod/synodlaw4.DiskLoaded", spec := "diskLoaded", unfollowed := true, recurses := true, apart := false }
def DiskLoadedSaid : Prop := diskLoadedRow.holds Try.pinned (OpenSpec.ofChange diskLoadedSpec)

/-- ITS FALSE NEIGHBOUR: 'it returns false'. Refute it at one input. -/
def diskLoadedWrong : ChangeSpec := { name := "diskLoaded", fn := fun _ => fun
  | [d1, d2] => { results := [.lit (.bool false)], args := [d1, d2] }
  | _ => none }
def DiskLoadedWrongFalsely : Prop := diskLoadedRow.holds Try.pinned (OpenSpec.ofChange diskLoadedWrong)

/-- 'synodlaw4.DiskLoads': WHATEVER THE INPUT: true; the input reads as it did. -/
def diskLoadsSpec : ChangeSpec := { name := "diskLoads", fn := fun _ => fun
  | [d1, d2] => { results := [.lit (.bool true)], args := [d1, d2] }
  | _ => none }
def diskLoadsRow : OpenClaim := { program := "ytkkbgcocpkipjaa", sum := "f4befae5a7d0a343836fbcabea1912f6debb454067af3e07319aafe8bcef2082", func := "synod/synodlaw4.DiskLoads", spec := "diskLoads", unfollowed := true, recurses := true, apart := false }
def DiskLoadsSaid : Prop := diskLoadsRow.holds Try.pinned (OpenSpec.ofChange diskLoadsSpec)

/-- ITS FALSE NEIGHBOUR: 'it returns false'. Refute it at one input. -/
def diskLoadsWrong : ChangeSpec := { name := "diskLoads", fn := fun _ => fun
  | [d1, d2] => { results := [.lit (.bool false)], args := [d1, d2] }
  | _ => none }
def DiskLoadsWrongFalsely : Prop := diskLoadsRow.holds Try.pinned (OpenSpec.ofChange diskLoadsWrong)

/- THE SECOND FORM. 'bulk': how many values and letters a reading holds, each counted each time it is reached (what is shared counts as often as it is met; a slice's spare places count too). A statement '..UptoSaid' is the law's where the arguments, and the package variables that the reading takes, are together of bulk at most 1048576: NARROWER than '..Said'. Prove '..Said' where nothing that the law and all that it calls make is longer than what came in: it says more and counts as full. Else prove '..UptoSaid'. A law counts once. -/
mutual
def uptoBulk {H : Type} : DataW H → Nat
  | .lit (.string bytes) => bytes.length + 1
  | .lit _ => 1
  | .nil => 1
  | .ptr d => uptoBulk d + 1
  | .slice elems spare => uptoBulkAll elems + uptoBulkAll spare + 1
  | .agg parts => uptoBulkAll parts + 1
  | .iface _ d => uptoBulk d + 1
  | .map entries => uptoBulkEntries entries + 1
  | .held _ => 1
def uptoBulkAll {H : Type} : List (DataW H) → Nat
  | [] => 0
  | d :: r => uptoBulk d + uptoBulkAll r
def uptoBulkEntries {H : Type} : List (Lit × DataW H) → Nat
  | [] => 0
  | x :: r => uptoBulkEntry x + uptoBulkEntries r
def uptoBulkEntry {H : Type} : Lit × DataW H → Nat
  | (.string bytes, d) => bytes.length + uptoBulk d + 1
  | (_, d) => uptoBulk d + 1
 end
def uptoSmall : (H : Type) → List (DataW H) → Bool := fun _ ds => decide (uptoBulkAll ds ≤ 1048576)
def OpenSpec.upto (s : _root_.Go.ChangeSpec) : _root_.Go.OpenSpec := { _root_.Go.OpenSpec.ofChange s with cond := some uptoSmall }

/-- 'synodlaw4.DiskFull', WHERE WHAT IT READS IS OF BULK AT MOST 1048576: true; the input reads as it did. -/
def diskFullUptoRow : OpenClaim := { program := "ytkkbgcocpkipjaa", sum := "f4befae5a7d0a343836fbcabea1912f6debb454067af3e07319aafe8bcef2082", func := "synod/synodlaw4.DiskFull", spec := "diskFull", unfollowed := true, recurses := true, apart := false, narrowed := true }
def DiskFullUptoSaid : Prop := diskFullUptoRow.holds Try.pinned (OpenSpec.upto diskFullSpec)

/-- 'synodlaw4.DiskDurable', WHERE WHAT IT READS IS OF BULK AT MOST 1048576: true; the input reads as it did. -/
def diskDurableUptoRow : OpenClaim := { program := "ytkkbgcocpkipjaa", sum := "f4befae5a7d0a343836fbcabea1912f6debb454067af3e07319aafe8bcef2082", func := "synod/synodlaw4.DiskDurable", spec := "diskDurable", unfollowed := true, recurses := true, apart := false, narrowed := true }
def DiskDurableUptoSaid : Prop := diskDurableUptoRow.holds Try.pinned (OpenSpec.upto diskDurableSpec)

/-- 'synodlaw4.DiskTwo', WHERE WHAT IT READS IS OF BULK AT MOST 1048576: true; the input reads as it did. -/
def diskTwoUptoRow : OpenClaim := { program := "ytkkbgcocpkipjaa", sum := "f4befae5a7d0a343836fbcabea1912f6debb454067af3e07319aafe8bcef2082", func := "synod/synodlaw4.DiskTwo", spec := "diskTwo", unfollowed := true, recurses := true, apart := false, narrowed := true }
def DiskTwoUptoSaid : Prop := diskTwoUptoRow.holds Try.pinned (OpenSpec.upto diskTwoSpec)

/-- 'synodlaw4.DiskPlays', WHERE WHAT IT READS IS OF BULK AT MOST 1048576: true; the input reads as it did. -/
def diskPlaysUptoRow : OpenClaim := { program := "ytkkbgcocpkipjaa", sum := "f4befae5a7d0a343836fbcabea1912f6debb454067af3e07319aafe8bcef2082", func := "synod/synodlaw4.DiskPlays", spec := "diskPlays", unfollowed := true, recurses := true, apart := false, narrowed := true }
def DiskPlaysUptoSaid : Prop := diskPlaysUptoRow.holds Try.pinned (OpenSpec.upto diskPlaysSpec)

/-- 'synodlaw4.DiskLoaded', WHERE WHAT IT READS IS OF BULK AT MOST 1048576: true; the input reads as it did. -/
def diskLoadedUptoRow : OpenClaim := { program := "ytkkbgcocpkipjaa", sum := "f4befae5a7d0a343836fbcabea1912f6debb454067af3e07319aafe8bcef2082", func := "synod/synodlaw4.DiskLoaded", spec := "diskLoaded", unfollowed := true, recurses := true, apart := false, narrowed := true }
def DiskLoadedUptoSaid : Prop := diskLoadedUptoRow.holds Try.pinned (OpenSpec.upto diskLoadedSpec)

/-- 'synodlaw4.DiskLoads', WHERE WHAT IT READS IS OF BULK AT MOST 1048576: true; the input reads as it did. -/
def diskLoadsUptoRow : OpenClaim := { program := "ytkkbgcocpkipjaa", sum := "f4befae5a7d0a343836fbcabea1912f6debb454067af3e07319aafe8bcef2082", func := "synod/synodlaw4.DiskLoads", spec := "diskLoads", unfollowed := true, recurses := true, apart := false, narrowed := true }
def DiskLoadsUptoSaid : Prop := diskLoadsUptoRow.holds Try.pinned (OpenSpec.upto diskLoadsSpec)

end Rows
end Go.Proofs.Ytkkbgcocpkipjaa

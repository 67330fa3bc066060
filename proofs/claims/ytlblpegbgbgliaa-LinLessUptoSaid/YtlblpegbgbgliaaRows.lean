/-
  No cell of these rows narrows 'for every input' (looked for: loops, veiled, ifaces, maps, wideKeys, modest, calm, conditions, laid).
  DERIVED. THE GIVEN ROWS OF THIS SEAT. 8 by the template 'for every input the law returns true; each argument reads behind the call as it read before'; 0 by the template 'total and deterministic' (their statements: YtlblpegbgbgliaaTotals.lean).
  GIVEN WITH THE SEED: the statements are not yours to turn. If you find one false, say at which input.
  Laid BY PROGRAM, IN A SANDBOX (cutbox-rows.mjs): the forced cells as the released guide's own fill.sh prints them over the translation 6c60ee2a28fe5946… (all of the seat's roots in one cut). By AI agents, Wed Nov 11 2026. No macro, syntax, notation, axiom, sorry.
-/
import Derived.Test.YtlblpegbgbgliaaChecked
import GoSem.Claim
import GoSem.ClaimJoined
import GoSem.ClaimMapViews
import Derived.JoinedTies
import Derived.KernelRfl
namespace Go.Proofs.Ytlblpegbgbgliaa
/- THE CELL 'sum', in the pinned program and in every row, IS THE sha256 OF THE DUMP (.gsa) THAT YtlblpegbgbgliaaProg.lean LOADS. Nothing in Lean hashes anything: it is a label: what it is worth is what the hold of that sum in a sandbox is worth. -/
noncomputable def Try.pinned : Pinned := { name := "ytlblpegbgbgliaa", sum := "6c60ee2a28fe5946ff25280d882a00b5b74923e2a4aea6f7cd26e81b30e7a163", checked := Try.checked }
namespace Rows
def none {H : Type} : Left H := { results := [], args := [] }

/-- 'synodlaw16.LinChecks': WHATEVER THE INPUT: true; the input reads as it did. -/
def linChecksSpec : ChangeSpec := { name := "linChecks", fn := fun _ => fun
  | [d] => { results := [.lit (.bool true)], args := [d] }
  | _ => none }
def linChecksRow : OpenClaim := { program := "ytlblpegbgbgliaa", sum := "6c60ee2a28fe5946ff25280d882a00b5b74923e2a4aea6f7cd26e81b30e7a163", func := "synod/synodlaw16.LinChecks", spec := "linChecks", unfollowed := true, recurses := true, plainKeys := false, apart := false }
def LinChecksSaid : Prop := linChecksRow.holds Try.pinned (OpenSpec.ofChange linChecksSpec)

/-- ITS FALSE NEIGHBOUR: 'it returns false'. Refute it at one input. -/
def linChecksWrong : ChangeSpec := { name := "linChecks", fn := fun _ => fun
  | [d] => { results := [.lit (.bool false)], args := [d] }
  | _ => none }
def LinChecksWrongFalsely : Prop := linChecksRow.holds Try.pinned (OpenSpec.ofChange linChecksWrong)

/-- 'synodlaw16.LinExplains': WHATEVER THE INPUT: true; the input reads as it did. -/
def linExplainsSpec : ChangeSpec := { name := "linExplains", fn := fun _ => fun
  | [d1, d2] => { results := [.lit (.bool true)], args := [d1, d2] }
  | _ => none }
def linExplainsRow : OpenClaim := { program := "ytlblpegbgbgliaa", sum := "6c60ee2a28fe5946ff25280d882a00b5b74923e2a4aea6f7cd26e81b30e7a163", func := "synod/synodlaw16.LinExplains", spec := "linExplains", unfollowed := true, recurses := true, plainKeys := false, apart := false }
def LinExplainsSaid : Prop := linExplainsRow.holds Try.pinned (OpenSpec.ofChange linExplainsSpec)

/-- ITS FALSE NEIGHBOUR: 'it returns false'. Refute it at one input. -/
def linExplainsWrong : ChangeSpec := { name := "linExplains", fn := fun _ => fun
  | [d1, d2] => { results := [.lit (.bool false)], args := [d1, d2] }
  | _ => none }
def LinExplainsWrongFalsely : Prop := linExplainsRow.holds Try.pinned (OpenSpec.ofChange linExplainsWrong)

/-- 'synodlaw16.LinSteps': WHATEVER THE INPUT: true; the input reads as it did. -/
def linStepsSpec : ChangeSpec := { name := "linSteps", fn := fun _ => fun
  | [d1, d2, d3] => { results := [.lit (.bool true)], args := [d1, d2, d3] }
  | _ => none }
def linStepsRow : OpenClaim := { program := "ytlblpegbgbgliaa", sum := "6c60ee2a28fe5946ff25280d882a00b5b74923e2a4aea6f7cd26e81b30e7a163", func := "synod/synodlaw16.LinSteps", spec := "linSteps", unfollowed := true, recurses := true, plainKeys := false, apart := false }
def LinStepsSaid : Prop := linStepsRow.holds Try.pinned (OpenSpec.ofChange linStepsSpec)

/-- ITS FALSE NEIGHBOUR: 'it returns false'. Refute it at one input. -/
def linStepsWrong : ChangeSpec := { name := "linSteps", fn := fun _ => fun
  | [d1, d2, d3] => { results := [.lit (.bool false)], args := [d1, d2, d3] }
  | _ => none }
def LinStepsWrongFalsely : Prop := linStepsRow.holds Try.pinned (OpenSpec.ofChange linStepsWrong)

/-- 'synodlaw16.LinOrder': WHATEVER THE INPUT: true; the input reads as it did. -/
def linOrderSpec : ChangeSpec := { name := "linOrder", fn := fun _ => fun
  | [d1, d2, d3] => { results := [.lit (.bool true)], args := [d1, d2, d3] }
  | _ => none }
def linOrderRow : OpenClaim := { program := "ytlblpegbgbgliaa", sum := "6c60ee2a28fe5946ff25280d882a00b5b74923e2a4aea6f7cd26e81b30e7a163", func := "synod/synodlaw16.LinOrder", spec := "linOrder", unfollowed := true, recurses := true, plainKeys := false, apart := false }
def LinOrderSaid : Prop := linOrderRow.holds Try.pinned (OpenSpec.ofChange linOrderSpec)

/-- ITS FALSE NEIGHBOUR: 'it returns false'. Refute it at one input. -/
def linOrderWrong : ChangeSpec := { name := "linOrder", fn := fun _ => fun
  | [d1, d2, d3] => { results := [.lit (.bool false)], args := [d1, d2, d3] }
  | _ => none }
def LinOrderWrongFalsely : Prop := linOrderRow.holds Try.pinned (OpenSpec.ofChange linOrderWrong)

/-- 'synodlaw16.LinLess': WHATEVER THE INPUT: true; the input reads as it did. -/
def linLessSpec : ChangeSpec := { name := "linLess", fn := fun _ => fun
  | [d1, d2, d3, d4] => { results := [.lit (.bool true)], args := [d1, d2, d3, d4] }
  | _ => none }
def linLessRow : OpenClaim := { program := "ytlblpegbgbgliaa", sum := "6c60ee2a28fe5946ff25280d882a00b5b74923e2a4aea6f7cd26e81b30e7a163", func := "synod/synodlaw16.LinLess", spec := "linLess", unfollowed := true, recurses := true, plainKeys := false, apart := false }
def LinLessSaid : Prop := linLessRow.holds Try.pinned (OpenSpec.ofChange linLessSpec)

/-- ITS FALSE NEIGHBOUR: 'it returns false'. Refute it at one input. -/
def linLessWrong : ChangeSpec := { name := "linLess", fn := fun _ => fun
  | [d1, d2, d3, d4] => { results := [.lit (.bool false)], args := [d1, d2, d3, d4] }
  | _ => none }
def LinLessWrongFalsely : Prop := linLessRow.holds Try.pinned (OpenSpec.ofChange linLessWrong)

/-- 'synodlaw16.LinSerial': WHATEVER THE INPUT: true; the input reads as it did. -/
def linSerialSpec : ChangeSpec := { name := "linSerial", fn := fun _ => fun
  | [d] => { results := [.lit (.bool true)], args := [d] }
  | _ => none }
def linSerialRow : OpenClaim := { program := "ytlblpegbgbgliaa", sum := "6c60ee2a28fe5946ff25280d882a00b5b74923e2a4aea6f7cd26e81b30e7a163", func := "synod/synodlaw16.LinSerial", spec := "linSerial", unfollowed := true, recurses := true, plainKeys := false, apart := false }
def LinSerialSaid : Prop := linSerialRow.holds Try.pinned (OpenSpec.ofChange linSerialSpec)

/-- ITS FALSE NEIGHBOUR: 'it returns false'. Refute it at one input. -/
def linSerialWrong : ChangeSpec := { name := "linSerial", fn := fun _ => fun
  | [d] => { results := [.lit (.bool false)], args := [d] }
  | _ => none }
def LinSerialWrongFalsely : Prop := linSerialRow.holds Try.pinned (OpenSpec.ofChange linSerialWrong)

/-- 'synodlaw16.LinTurned': WHATEVER THE INPUT: true; the input reads as it did. -/
def linTurnedSpec : ChangeSpec := { name := "linTurned", fn := fun _ => fun
  | [d1, d2] => { results := [.lit (.bool true)], args := [d1, d2] }
  | _ => none }
def linTurnedRow : OpenClaim := { program := "ytlblpegbgbgliaa", sum := "6c60ee2a28fe5946ff25280d882a00b5b74923e2a4aea6f7cd26e81b30e7a163", func := "synod/synodlaw16.LinTurned", spec := "linTurned", unfollowed := true, recurses := true, plainKeys := false, apart := false }
def LinTurnedSaid : Prop := linTurnedRow.holds Try.pinned (OpenSpec.ofChange linTurnedSpec)

/-- ITS FALSE NEIGHBOUR: 'it returns false'. Refute it at one input. -/
def linTurnedWrong : ChangeSpec := { name := "linTurned", fn := fun _ => fun
  | [d1, d2] => { results := [.lit (.bool false)], args := [d1, d2] }
  | _ => none }
def LinTurnedWrongFalsely : Prop := linTurnedRow.holds Try.pinned (OpenSpec.ofChange linTurnedWrong)

/-- 'synodlaw16.LinKeys': WHATEVER THE INPUT: true; the input reads as it did. -/
def linKeysSpec : ChangeSpec := { name := "linKeys", fn := fun _ => fun
  | [d] => { results := [.lit (.bool true)], args := [d] }
  | _ => none }
def linKeysRow : OpenClaim := { program := "ytlblpegbgbgliaa", sum := "6c60ee2a28fe5946ff25280d882a00b5b74923e2a4aea6f7cd26e81b30e7a163", func := "synod/synodlaw16.LinKeys", spec := "linKeys", unfollowed := true, recurses := true, plainKeys := false, apart := false }
def LinKeysSaid : Prop := linKeysRow.holds Try.pinned (OpenSpec.ofChange linKeysSpec)

/-- ITS FALSE NEIGHBOUR: 'it returns false'. Refute it at one input. -/
def linKeysWrong : ChangeSpec := { name := "linKeys", fn := fun _ => fun
  | [d] => { results := [.lit (.bool false)], args := [d] }
  | _ => none }
def LinKeysWrongFalsely : Prop := linKeysRow.holds Try.pinned (OpenSpec.ofChange linKeysWrong)

/- THE SECOND FORM. 'bulk': how many values and letters a reading holds, each counted each time it is reached (what is shared counts as often as it is met; a slice's spare places count too). A statement '..UptoSaid' is the law's where the arguments, and the package variables that the reading takes, are together of bulk at most 1048576: NARROWER than '..Said'. Prove '..Said' where nothing that the law and all that it calls make is longer than what came in: it says more and counts as full. Else prove '..UptoSaid'. A law counts once. -/
mutual
def uptoBulk {H : Type} : DataW H → Nat
  | .lit (.string bytes) => bytes.length + 1
  | .lit _ => 1
  | .nil => 1
  | .ptr d => uptoBulk d + 1
  | .slice elems spare => uptoBulkAll elems + uptoBulkAll spare + 1
  | .agg parts => uptoBulkAll parts + 1
  | .iface _ d => uptoBulk d + 1
  | .map entries => uptoBulkEntries entries + 1
  | .held _ => 1
def uptoBulkAll {H : Type} : List (DataW H) → Nat
  | [] => 0
  | d :: r => uptoBulk d + uptoBulkAll r
def uptoBulkEntries {H : Type} : List (Lit × DataW H) → Nat
  | [] => 0
  | x :: r => uptoBulkEntry x + uptoBulkEntries r
def uptoBulkEntry {H : Type} : Lit × DataW H → Nat
  | (.string bytes, d) => bytes.length + uptoBulk d + 1
  | (_, d) => uptoBulk d + 1
 end
def uptoSmall : (H : Type) → List (DataW H) → Bool := fun _ ds => decide (uptoBulkAll ds ≤ 1048576)
def OpenSpec.upto (s : _root_.Go.ChangeSpec) : _root_.Go.OpenSpec := { _root_.Go.OpenSpec.ofChange s with cond := some uptoSmall }

/-- 'synodlaw16.LinChecks', WHERE WHAT IT READS IS OF BULK AT MOST 1048576: true; the input reads as it did. -/
def linChecksUptoRow : OpenClaim := { program := "ytlblpegbgbgliaa", sum := "6c60ee2a28fe5946ff25280d882a00b5b74923e2a4aea6f7cd26e81b30e7a163", func := "synod/synodlaw16.LinChecks", spec := "linChecks", unfollowed := true, recurses := true, plainKeys := false, apart := false, narrowed := true }
def LinChecksUptoSaid : Prop := linChecksUptoRow.holds Try.pinned (OpenSpec.upto linChecksSpec)

/-- 'synodlaw16.LinExplains', WHERE WHAT IT READS IS OF BULK AT MOST 1048576: true; the input reads as it did. -/
def linExplainsUptoRow : OpenClaim := { program := "ytlblpegbgbgliaa", sum := "6c60ee2a28fe5946ff25280d882a00b5b74923e2a4aea6f7cd26e81b30e7a163", func := "synod/synodlaw16.LinExplains", spec := "linExplains", unfollowed := true, recurses := true, plainKeys := false, apart := false, narrowed := true }
def LinExplainsUptoSaid : Prop := linExplainsUptoRow.holds Try.pinned (OpenSpec.upto linExplainsSpec)

/-- 'synodlaw16.LinSteps', WHERE WHAT IT READS IS OF BULK AT MOST 1048576: true; the input reads as it did. -/
def linStepsUptoRow : OpenClaim := { program := "ytlblpegbgbgliaa", sum := "6c60ee2a28fe5946ff25280d882a00b5b74923e2a4aea6f7cd26e81b30e7a163", func := "synod/synodlaw16.LinSteps", spec := "linSteps", unfollowed := true, recurses := true, plainKeys := false, apart := false, narrowed := true }
def LinStepsUptoSaid : Prop := linStepsUptoRow.holds Try.pinned (OpenSpec.upto linStepsSpec)

/-- 'synodlaw16.LinOrder', WHERE WHAT IT READS IS OF BULK AT MOST 1048576: true; the input reads as it did. -/
def linOrderUptoRow : OpenClaim := { program := "ytlblpegbgbgliaa", sum := "6c60ee2a28fe5946ff25280d882a00b5b74923e2a4aea6f7cd26e81b30e7a163", func := "synod/synodlaw16.LinOrder", spec := "linOrder", unfollowed := true, recurses := true, plainKeys := false, apart := false, narrowed := true }
def LinOrderUptoSaid : Prop := linOrderUptoRow.holds Try.pinned (OpenSpec.upto linOrderSpec)

/-- 'synodlaw16.LinLess', WHERE WHAT IT READS IS OF BULK AT MOST 1048576: true; the input reads as it did. -/
def linLessUptoRow : OpenClaim := { program := "ytlblpegbgbgliaa", sum := "6c60ee2a28fe5946ff25280d882a00b5b74923e2a4aea6f7cd26e81b30e7a163", func := "synod/synodlaw16.LinLess", spec := "linLess", unfollowed := true, recurses := true, plainKeys := false, apart := false, narrowed := true }
def LinLessUptoSaid : Prop := linLessUptoRow.holds Try.pinned (OpenSpec.upto linLessSpec)

/-- 'synodlaw16.LinSerial', WHERE WHAT IT READS IS OF BULK AT MOST 1048576: true; the input reads as it did. -/
def linSerialUptoRow : OpenClaim := { program := "ytlblpegbgbgliaa", sum := "6c60ee2a28fe5946ff25280d882a00b5b74923e2a4aea6f7cd26e81b30e7a163", func := "synod/synodlaw16.LinSerial", spec := "linSerial", unfollowed := true, recurses := true, plainKeys := false, apart := false, narrowed := true }
def LinSerialUptoSaid : Prop := linSerialUptoRow.holds Try.pinned (OpenSpec.upto linSerialSpec)

/-- 'synodlaw16.LinTurned', WHERE WHAT IT READS IS OF BULK AT MOST 1048576: true; the input reads as it did. -/
def linTurnedUptoRow : OpenClaim := { program := "ytlblpegbgbgliaa", sum := "6c60ee2a28fe5946ff25280d882a00b5b74923e2a4aea6f7cd26e81b30e7a163", func := "synod/synodlaw16.LinTurned", spec := "linTurned", unfollowed := true, recurses := true, plainKeys := false, apart := false, narrowed := true }
def LinTurnedUptoSaid : Prop := linTurnedUptoRow.holds Try.pinned (OpenSpec.upto linTurnedSpec)

/-- 'synodlaw16.LinKeys', WHERE WHAT IT READS IS OF BULK AT MOST 1048576: true; the input reads as it did. -/
def linKeysUptoRow : OpenClaim := { program := "ytlblpegbgbgliaa", sum := "6c60ee2a28fe5946ff25280d882a00b5b74923e2a4aea6f7cd26e81b30e7a163", func := "synod/synodlaw16.LinKeys", spec := "linKeys", unfollowed := true, recurses := true, plainKeys := false, apart := false, narrowed := true }
def LinKeysUptoSaid : Prop := linKeysUptoRow.holds Try.pinned (OpenSpec.upto linKeysSpec)

end Rows
end Go.Proofs.Ytlblpegbgbgliaa

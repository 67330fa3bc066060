/-
  No cell of these rows narrows 'for every input' (looked for: loops, veiled, ifaces, maps, wideKeys, modest, calm, conditions, laid).
  DERIVED. THE GIVEN ROWS OF THIS SEAT. 2 by the template 'for every input the law returns true; each argument reads behind the call as it read before'; 0 by the template 'total and deterministic' (their statements: YtdaedoklkmdhcaaGreatTotals.lean).
  GIVEN WITH THE SEED: the statements are not yours to turn. If you find one false, say at which input.
  Laid BY PROGRAM, IN A SANDBOX (cutbox-rows.mjs): the forced cells as the released guide's own fill.sh prints them over the translation f0537faafde62031… (all of the seat's roots in one cut). By AI agents, Wed Nov 11 2026. No macro, syntax, notation, axiom, sorry.
-/
import Derived.Test.YtdaedoklkmdhcaaGreatChecked
import GoSem.Claim
import GoSem.ClaimJoined
import GoSem.ClaimMapViews
import Derived.JoinedTies
import Derived.KernelRfl
namespace Go.Proofs.YtdaedoklkmdhcaaGreat
/- THE CELL 'sum', in the pinned program and in every row, IS THE sha256 OF THE DUMP (.gsa) THAT YtdaedoklkmdhcaaGreatProg.lean LOADS. Nothing in Lean hashes anything: it is a label: what it is worth is what the hold of that sum in a sandbox is worth. -/
noncomputable def Tryz.pinned : Pinned := { name := "ytdaedoklkmdhcaagreat", sum := "f0537faafde620314f9a30e12571b8977060caaf5db7a97333122ad5167c16c1", checked := Tryz.checked }
namespace Rows
def none {H : Type} : Left H := { results := [], args := [] }

/-- 'synodlaw11.KvBack': WHATEVER THE INPUT: true; the input reads as it did. -/
def kvBackSpec : ChangeSpec := { name := "kvBack", fn := fun _ => fun
  | [d1, d2, d3] => { results := [.lit (.bool true)], args := [d1, d2, d3] }
  | _ => none }
def kvBackRow : OpenClaim := { program := "ytdaedoklkmdhcaagreat", sum := "f0537faafde620314f9a30e12571b8977060caaf5db7a97333122ad5167c16c1", func := "synod/synodlaw11.KvBack", spec := "kvBack", inPlace := ["maps.clone"], unfollowed := true, recurses := true, apart := false }
def KvBackSaid : Prop := kvBackRow.holds Tryz.pinned (OpenSpec.ofChange kvBackSpec)

/-- ITS FALSE NEIGHBOUR: 'it returns false'. Refute it at one input. -/
def kvBackWrong : ChangeSpec := { name := "kvBack", fn := fun _ => fun
  | [d1, d2, d3] => { results := [.lit (.bool false)], args := [d1, d2, d3] }
  | _ => none }
def KvBackWrongFalsely : Prop := kvBackRow.holds Tryz.pinned (OpenSpec.ofChange kvBackWrong)

/-- 'synodlaw11.KvRestores': WHATEVER THE INPUT: true; the input reads as it did. -/
def kvRestoresSpec : ChangeSpec := { name := "kvRestores", fn := fun _ => fun
  | [d1, d2] => { results := [.lit (.bool true)], args := [d1, d2] }
  | _ => none }
def kvRestoresRow : OpenClaim := { program := "ytdaedoklkmdhcaagreat", sum := "f0537faafde620314f9a30e12571b8977060caaf5db7a97333122ad5167c16c1", func := "synod/synodlaw11.KvRestores", spec := "kvRestores", inPlace := ["maps.clone"], unfollowed := true, recurses := true, apart := false }
def KvRestoresSaid : Prop := kvRestoresRow.holds Tryz.pinned (OpenSpec.ofChange kvRestoresSpec)

/-- ITS FALSE NEIGHBOUR: 'it returns false'. Refute it at one input. -/
def kvRestoresWrong : ChangeSpec := { name := "kvRestores", fn := fun _ => fun
  | [d1, d2] => { results := [.lit (.bool false)], args := [d1, d2] }
  | _ => none }
def KvRestoresWrongFalsely : Prop := kvRestoresRow.holds Tryz.pinned (OpenSpec.ofChange kvRestoresWrong)

/- THE SECOND FORM. 'bulk': how many values and letters a reading holds, each counted each time it is reached (what is shared counts as often as it is met; a slice's spare places count too). A statement '..UptoSaid' is the law's where the arguments, and the package variables that the reading takes, are together of bulk at most 1048576: NARROWER than '..Said'. Prove '..Said' where nothing that the law and all that it calls make is longer than what came in: it says more and counts as full. Else prove '..UptoSaid'. A law counts once. -/
mutual
def uptoBulk {H : Type} : DataW H → Nat
  | .lit (.string bytes) => bytes.length + 1
  | .lit _ => 1
  | .nil => 1
  | .ptr d => uptoBulk d + 1
  | .slice elems spare => uptoBulkAll elems + uptoBulkAll spare + 1
  | .agg parts => uptoBulkAll parts + 1
  | .iface _ d => uptoBulk d + 1
  | .map entries => uptoBulkEntries entries + 1
  | .held _ => 1
def uptoBulkAll {H : Type} : List (DataW H) → Nat
  | [] => 0
  | d :: r => uptoBulk d + uptoBulkAll r
def uptoBulkEntries {H : Type} : List (Lit × DataW H) → Nat
  | [] => 0
  | x :: r => uptoBulkEntry x + uptoBulkEntries r
def uptoBulkEntry {H : Type} : Lit × DataW H → Nat
  | (.string bytes, d) => bytes.length + uptoBulk d + 1
  | (_, d) => uptoBulk d + 1
 end
def uptoSmall : (H : Type) → List (DataW H) → Bool := fun _ ds => decide (uptoBulkAll ds ≤ 1048576)
def OpenSpec.upto (s : _root_.Go.ChangeSpec) : _root_.Go.OpenSpec := { _root_.Go.OpenSpec.ofChange s with cond := some uptoSmall }

/-- 'synodlaw11.KvBack', WHERE WHAT IT READS IS OF BULK AT MOST 1048576: true; the input reads as it did. -/
def kvBackUptoRow : OpenClaim := { program := "ytdaedoklkmdhcaagreat", sum := "f0537faafde620314f9a30e12571b8977060caaf5db7a97333122ad5167c16c1", func := "synod/synodlaw11.KvBack", spec := "kvBack", inPlace := ["maps.clone"], unfollowed := true, recurses := true, apart := false, narrowed := true }
def KvBackUptoSaid : Prop := kvBackUptoRow.holds Tryz.pinned (OpenSpec.upto kvBackSpec)

/-- 'synodlaw11.KvRestores', WHERE WHAT IT READS IS OF BULK AT MOST 1048576: true; the input reads as it did. -/
def kvRestoresUptoRow : OpenClaim := { program := "ytdaedoklkmdhcaagreat", sum := "f0537faafde620314f9a30e12571b8977060caaf5db7a97333122ad5167c16c1", func := "synod/synodlaw11.KvRestores", spec := "kvRestores", inPlace := ["maps.clone"], unfollowed := true, recurses := true, apart := false, narrowed := true }
def KvRestoresUptoSaid : Prop := kvRestoresUptoRow.holds Tryz.pinned (OpenSpec.upto kvRestoresSpec)

end Rows
end Go.Proofs.YtdaedoklkmdhcaaGreat

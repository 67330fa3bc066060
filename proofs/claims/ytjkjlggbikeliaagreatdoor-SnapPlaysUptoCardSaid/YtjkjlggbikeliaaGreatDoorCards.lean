/-
  DERIVED. GIVEN WITH THE SEED: THE CARDS: each row of YtjkjlggbikeliaaGreatDoorRows.lean that lists a variable, with what it lists TIED to the program's text (the seventh form; the later family's looks); each row that meets fmt, with fmt's text TOLD by the authors' own Lean function (tested against real Go, not proved from fmt's source: count such statements apart). THE CARD IS WHAT COUNTS. Prove the row's statement (the work); the ties are given (YtjkjlggbikeliaaGreatDoorTie.lean); close each card by the builder's one call (the guide's Derived/Test/ToyasCard.lean, 'card_holds'). Laid BY PROGRAM, IN A SANDBOX (cutbox-door.mjs). By AI agents, Wed Nov 11 2026. No macro, syntax, notation, axiom, sorry.
-/
import Derived.Test.YtjkjlggbikeliaaGreatDoorRows
import GoSem.ClaimSeven
namespace Go.Proofs.YtjkjlggbikeliaaGreatDoor
namespace Rows

/-- THE TIED CARD OF 'synodlaw6.SnapNewest'. -/
def snapNewestCard : Claim7 := { stood := { row := snapNewestRow, standIns := [], harness := (true, "bc17641fa714e403d4bb9ef75159fc0446ab9ecb248eac281c6b00ecf648f8fe"), looks := true }, kinds := [], alts := [], laidByText := true, laidKinds := [.data, .data, .data, .data, .sentinel, .sentinel, .pinned], laidTests := true, laidLooks := .later }
def SnapNewestCardSaid : Prop := Claim7.holds Tryz.pinned (.plain (OpenSpec.ofChange snapNewestSpec)) snapNewestCard

/-- THE TIED CARD OF 'synodlaw6.SnapPlays'. -/
def snapPlaysCard : Claim7 := { stood := { row := snapPlaysRow, standIns := [], harness := (true, "bc17641fa714e403d4bb9ef75159fc0446ab9ecb248eac281c6b00ecf648f8fe"), looks := true }, kinds := [], alts := [], laidByText := true, laidKinds := [.data, .data, .data, .data, .sentinel, .sentinel, .pinned], laidTests := true, laidLooks := .later }
def SnapPlaysCardSaid : Prop := Claim7.holds Tryz.pinned (.plain (OpenSpec.ofChange snapPlaysSpec)) snapPlaysCard

/-- THE TIED CARD OF 'synodlaw6.SnapNames'. -/
def snapNamesCard : Claim7 := { stood := { row := snapNamesRow, standIns := [], harness := (true, "bc17641fa714e403d4bb9ef75159fc0446ab9ecb248eac281c6b00ecf648f8fe"), looks := true }, kinds := [], alts := [], laidByText := true, laidKinds := [.data, .data, .data, .data, .sentinel, .sentinel, .pinned], laidTests := true, laidLooks := .later }
def SnapNamesCardSaid : Prop := Claim7.holds Tryz.pinned (.plain (OpenSpec.ofChange snapNamesSpec)) snapNamesCard

/-- THE TIED CARD OF 'synodlaw6.SnapAtomic'. -/
def snapAtomicCard : Claim7 := { stood := { row := snapAtomicRow, standIns := [], harness := (true, "bc17641fa714e403d4bb9ef75159fc0446ab9ecb248eac281c6b00ecf648f8fe"), looks := true }, kinds := [], alts := [], laidByText := true, laidKinds := [.data, .data, .data, .data, .sentinel, .sentinel, .pinned], laidTests := true, laidLooks := .later }
def SnapAtomicCardSaid : Prop := Claim7.holds Tryz.pinned (.plain (OpenSpec.ofChange snapAtomicSpec)) snapAtomicCard

/-- THE TIED CARD OF 'synodlaw6.SnapBeside'. -/
def snapBesideCard : Claim7 := { stood := { row := snapBesideRow, standIns := [], harness := (true, "bc17641fa714e403d4bb9ef75159fc0446ab9ecb248eac281c6b00ecf648f8fe"), looks := true }, kinds := [], alts := [], laidByText := true, laidKinds := [.data, .data, .data, .data, .sentinel, .sentinel, .pinned], laidTests := true, laidLooks := .later }
def SnapBesideCardSaid : Prop := Claim7.holds Tryz.pinned (.plain (OpenSpec.ofChange snapBesideSpec)) snapBesideCard

/-- THE SECOND FORM's CARD OF 'synodlaw6.SnapNewest'. -/
def snapNewestUptoCard : Claim7 := { stood := { row := snapNewestUptoRow, standIns := [], harness := (true, "bc17641fa714e403d4bb9ef75159fc0446ab9ecb248eac281c6b00ecf648f8fe"), looks := true }, kinds := [], alts := [], laidByText := true, laidKinds := [.data, .data, .data, .data, .sentinel, .sentinel, .pinned], laidTests := true, laidLooks := .later }
def SnapNewestUptoCardSaid : Prop := Claim7.holds Tryz.pinned (.plain (OpenSpec.upto snapNewestSpec)) snapNewestUptoCard

/-- THE SECOND FORM's CARD OF 'synodlaw6.SnapPlays'. -/
def snapPlaysUptoCard : Claim7 := { stood := { row := snapPlaysUptoRow, standIns := [], harness := (true, "bc17641fa714e403d4bb9ef75159fc0446ab9ecb248eac281c6b00ecf648f8fe"), looks := true }, kinds := [], alts := [], laidByText := true, laidKinds := [.data, .data, .data, .data, .sentinel, .sentinel, .pinned], laidTests := true, laidLooks := .later }
def SnapPlaysUptoCardSaid : Prop := Claim7.holds Tryz.pinned (.plain (OpenSpec.upto snapPlaysSpec)) snapPlaysUptoCard

/-- THE SECOND FORM's CARD OF 'synodlaw6.SnapNames'. -/
def snapNamesUptoCard : Claim7 := { stood := { row := snapNamesUptoRow, standIns := [], harness := (true, "bc17641fa714e403d4bb9ef75159fc0446ab9ecb248eac281c6b00ecf648f8fe"), looks := true }, kinds := [], alts := [], laidByText := true, laidKinds := [.data, .data, .data, .data, .sentinel, .sentinel, .pinned], laidTests := true, laidLooks := .later }
def SnapNamesUptoCardSaid : Prop := Claim7.holds Tryz.pinned (.plain (OpenSpec.upto snapNamesSpec)) snapNamesUptoCard

/-- THE SECOND FORM's CARD OF 'synodlaw6.SnapAtomic'. -/
def snapAtomicUptoCard : Claim7 := { stood := { row := snapAtomicUptoRow, standIns := [], harness := (true, "bc17641fa714e403d4bb9ef75159fc0446ab9ecb248eac281c6b00ecf648f8fe"), looks := true }, kinds := [], alts := [], laidByText := true, laidKinds := [.data, .data, .data, .data, .sentinel, .sentinel, .pinned], laidTests := true, laidLooks := .later }
def SnapAtomicUptoCardSaid : Prop := Claim7.holds Tryz.pinned (.plain (OpenSpec.upto snapAtomicSpec)) snapAtomicUptoCard

/-- THE SECOND FORM's CARD OF 'synodlaw6.SnapBeside'. -/
def snapBesideUptoCard : Claim7 := { stood := { row := snapBesideUptoRow, standIns := [], harness := (true, "bc17641fa714e403d4bb9ef75159fc0446ab9ecb248eac281c6b00ecf648f8fe"), looks := true }, kinds := [], alts := [], laidByText := true, laidKinds := [.data, .data, .data, .data, .sentinel, .sentinel, .pinned], laidTests := true, laidLooks := .later }
def SnapBesideUptoCardSaid : Prop := Claim7.holds Tryz.pinned (.plain (OpenSpec.upto snapBesideSpec)) snapBesideUptoCard
end Rows
end Go.Proofs.YtjkjlggbikeliaaGreatDoor

/-
  DERIVED. GIVEN WITH THE SEED: THE CARDS: each row of YtndjkejhacfpdaaGreatDoorRows.lean that lists a variable, with what it lists TIED to the program's text (the seventh form; the later family's looks); each row that meets fmt, with fmt's text TOLD by the authors' own Lean function (tested against real Go, not proved from fmt's source: count such statements apart). THE CARD IS WHAT COUNTS. Prove the row's statement (the work); the ties are given (YtndjkejhacfpdaaGreatDoorTie.lean); close each card by the builder's one call (the guide's Derived/Test/ToyasCard.lean, 'card_holds'). Laid BY PROGRAM, IN A SANDBOX (cutbox-door.mjs). By AI agents, Wed Nov 11 2026. No macro, syntax, notation, axiom, sorry.
-/
import Derived.Test.YtndjkejhacfpdaaGreatDoorRows
import GoSem.ClaimSeven
namespace Go.Proofs.YtndjkejhacfpdaaGreatDoor
namespace Rows

/-- THE TIED CARD OF 'synodlaw5.WalNames'. -/
def walNamesCard : Claim7 := { stood := { row := walNamesRow, standIns := [], harness := (true, "f40664e6d0ca7279b472897f73033dcbb51ad6a0644c8bec7e9e9fc22ccccc09"), looks := true }, kinds := [], alts := [], laidByText := true, laidKinds := [.data, .data, .data], laidTests := true, laidLooks := .later }
def WalNamesCardSaid : Prop := Claim7.holds Tryz.pinned (.plain (OpenSpec.ofChange walNamesSpec)) walNamesCard

/-- THE TIED CARD OF 'synodlaw5.WalSplits'. -/
def walSplitsCard : Claim7 := { stood := { row := walSplitsRow, standIns := [], harness := (true, "f40664e6d0ca7279b472897f73033dcbb51ad6a0644c8bec7e9e9fc22ccccc09"), looks := true }, kinds := [], alts := [], laidByText := true, laidKinds := [.data, .data, .data], laidTests := true, laidLooks := .later }
def WalSplitsCardSaid : Prop := Claim7.holds Tryz.pinned (.plain (OpenSpec.ofChange walSplitsSpec)) walSplitsCard

/-- THE TIED CARD OF 'synodlaw5.WalSegments'. -/
def walSegmentsCard : Claim7 := { stood := { row := walSegmentsRow, standIns := [], harness := (true, "f40664e6d0ca7279b472897f73033dcbb51ad6a0644c8bec7e9e9fc22ccccc09"), looks := true }, kinds := [], alts := [], laidByText := true, laidKinds := [.data, .data, .data], laidTests := true, laidLooks := .later }
def WalSegmentsCardSaid : Prop := Claim7.holds Tryz.pinned (.plain (OpenSpec.ofChange walSegmentsSpec)) walSegmentsCard

/-- THE TIED CARD OF 'synodlaw5.WalAgain'. -/
def walAgainCard : Claim7 := { stood := { row := walAgainRow, standIns := [], harness := (true, "f40664e6d0ca7279b472897f73033dcbb51ad6a0644c8bec7e9e9fc22ccccc09"), looks := true }, kinds := [], alts := [], laidByText := true, laidKinds := [.data, .data, .data], laidTests := true, laidLooks := .later }
def WalAgainCardSaid : Prop := Claim7.holds Tryz.pinned (.plain (OpenSpec.ofChange walAgainSpec)) walAgainCard

/-- THE TIED CARD OF 'synodlaw5.WalCompacts'. -/
def walCompactsCard : Claim7 := { stood := { row := walCompactsRow, standIns := [], harness := (true, "f40664e6d0ca7279b472897f73033dcbb51ad6a0644c8bec7e9e9fc22ccccc09"), looks := true }, kinds := [], alts := [], laidByText := true, laidKinds := [.data, .data, .data], laidTests := true, laidLooks := .later }
def WalCompactsCardSaid : Prop := Claim7.holds Tryz.pinned (.plain (OpenSpec.ofChange walCompactsSpec)) walCompactsCard

/-- THE TIED CARD OF 'synodlaw5.WalRecovers'. -/
def walRecoversCard : Claim7 := { stood := { row := walRecoversRow, standIns := [], harness := (true, "f40664e6d0ca7279b472897f73033dcbb51ad6a0644c8bec7e9e9fc22ccccc09"), looks := true }, kinds := [], alts := [], laidByText := true, laidKinds := [.data, .data, .data], laidTests := true, laidLooks := .later }
def WalRecoversCardSaid : Prop := Claim7.holds Tryz.pinned (.plain (OpenSpec.ofChange walRecoversSpec)) walRecoversCard

/-- THE SECOND FORM's CARD OF 'synodlaw5.WalNames'. -/
def walNamesUptoCard : Claim7 := { stood := { row := walNamesUptoRow, standIns := [], harness := (true, "f40664e6d0ca7279b472897f73033dcbb51ad6a0644c8bec7e9e9fc22ccccc09"), looks := true }, kinds := [], alts := [], laidByText := true, laidKinds := [.data, .data, .data], laidTests := true, laidLooks := .later }
def WalNamesUptoCardSaid : Prop := Claim7.holds Tryz.pinned (.plain (OpenSpec.upto walNamesSpec)) walNamesUptoCard

/-- THE SECOND FORM's CARD OF 'synodlaw5.WalSplits'. -/
def walSplitsUptoCard : Claim7 := { stood := { row := walSplitsUptoRow, standIns := [], harness := (true, "f40664e6d0ca7279b472897f73033dcbb51ad6a0644c8bec7e9e9fc22ccccc09"), looks := true }, kinds := [], alts := [], laidByText := true, laidKinds := [.data, .data, .data], laidTests := true, laidLooks := .later }
def WalSplitsUptoCardSaid : Prop := Claim7.holds Tryz.pinned (.plain (OpenSpec.upto walSplitsSpec)) walSplitsUptoCard

/-- THE SECOND FORM's CARD OF 'synodlaw5.WalSegments'. -/
def walSegmentsUptoCard : Claim7 := { stood := { row := walSegmentsUptoRow, standIns := [], harness := (true, "f40664e6d0ca7279b472897f73033dcbb51ad6a0644c8bec7e9e9fc22ccccc09"), looks := true }, kinds := [], alts := [], laidByText := true, laidKinds := [.data, .data, .data], laidTests := true, laidLooks := .later }
def WalSegmentsUptoCardSaid : Prop := Claim7.holds Tryz.pinned (.plain (OpenSpec.upto walSegmentsSpec)) walSegmentsUptoCard

/-- THE SECOND FORM's CARD OF 'synodlaw5.WalAgain'. -/
def walAgainUptoCard : Claim7 := { stood := { row := walAgainUptoRow, standIns := [], harness := (true, "f40664e6d0ca7279b472897f73033dcbb51ad6a0644c8bec7e9e9fc22ccccc09"), looks := true }, kinds := [], alts := [], laidByText := true, laidKinds := [.data, .data, .data], laidTests := true, laidLooks := .later }
def WalAgainUptoCardSaid : Prop := Claim7.holds Tryz.pinned (.plain (OpenSpec.upto walAgainSpec)) walAgainUptoCard

/-- THE SECOND FORM's CARD OF 'synodlaw5.WalCompacts'. -/
def walCompactsUptoCard : Claim7 := { stood := { row := walCompactsUptoRow, standIns := [], harness := (true, "f40664e6d0ca7279b472897f73033dcbb51ad6a0644c8bec7e9e9fc22ccccc09"), looks := true }, kinds := [], alts := [], laidByText := true, laidKinds := [.data, .data, .data], laidTests := true, laidLooks := .later }
def WalCompactsUptoCardSaid : Prop := Claim7.holds Tryz.pinned (.plain (OpenSpec.upto walCompactsSpec)) walCompactsUptoCard

/-- THE SECOND FORM's CARD OF 'synodlaw5.WalRecovers'. -/
def walRecoversUptoCard : Claim7 := { stood := { row := walRecoversUptoRow, standIns := [], harness := (true, "f40664e6d0ca7279b472897f73033dcbb51ad6a0644c8bec7e9e9fc22ccccc09"), looks := true }, kinds := [], alts := [], laidByText := true, laidKinds := [.data, .data, .data], laidTests := true, laidLooks := .later }
def WalRecoversUptoCardSaid : Prop := Claim7.holds Tryz.pinned (.plain (OpenSpec.upto walRecoversSpec)) walRecoversUptoCard
end Rows
end Go.Proofs.YtndjkejhacfpdaaGreatDoor

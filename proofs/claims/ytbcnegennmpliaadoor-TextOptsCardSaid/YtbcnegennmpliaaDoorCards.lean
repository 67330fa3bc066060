/-
  DERIVED. GIVEN WITH THE SEED: THE CARDS: each row of YtbcnegennmpliaaDoorRows.lean that lists a variable, with what it lists TIED to the program's text (the seventh form; the later family's looks); each row that meets fmt, with fmt's text TOLD by the authors' own Lean function (tested against real Go, not proved from fmt's source: count such statements apart). THE CARD IS WHAT COUNTS. Prove the row's statement (the work); the ties are given (YtbcnegennmpliaaDoorTie.lean); close each card by the builder's one call (the guide's Derived/Test/ToyasCard.lean, 'card_holds'). Laid BY PROGRAM, IN A SANDBOX (cutbox-door.mjs). By AI agents, Wed Nov 11 2026. No macro, syntax, notation, axiom, sorry.
-/
import Derived.Test.YtbcnegennmpliaaDoorRows
import GoSem.ClaimSeven
namespace Go.Proofs.YtbcnegennmpliaaDoor
namespace Rows

/-- THE TIED CARD OF 'synodlaw17.TextWords'. -/
def textWordsCard : Claim7 := { stood := { row := textWordsRow, standIns := [], harness := (true, "e0942e8be1bc9153da99350b03cb7c01f1d3ecc42d14ea9f760570adfc4add0a"), looks := true }, kinds := [], alts := [], laidByText := true, laidKinds := [.data, .data, .data, .data, .sentinel, .sentinel, .pinned], laidTests := true, laidLooks := .later }
def TextWordsCardSaid : Prop := Claim7.holds Tryd.pinned (.plain (OpenSpec.ofChange textWordsSpec)) textWordsCard

/-- THE TIED CARD OF 'synodlaw17.TextActs'. -/
def textActsCard : Claim7 := { stood := { row := textActsRow, standIns := [], harness := (true, "e0942e8be1bc9153da99350b03cb7c01f1d3ecc42d14ea9f760570adfc4add0a"), looks := true }, kinds := [], alts := [], laidByText := true, laidKinds := [.data, .data, .data, .data, .sentinel, .sentinel, .pinned], laidTests := true, laidLooks := .later }
def TextActsCardSaid : Prop := Claim7.holds Tryd.pinned (.plain (OpenSpec.ofChange textActsSpec)) textActsCard

/-- THE TIED CARD OF 'synodlaw17.TextBack'. -/
def textBackCard : Claim7 := { stood := { row := textBackRow, standIns := [], harness := (true, "e0942e8be1bc9153da99350b03cb7c01f1d3ecc42d14ea9f760570adfc4add0a"), looks := true }, kinds := [], alts := [], laidByText := true, laidKinds := [.data, .data, .data, .data, .sentinel, .sentinel, .pinned], laidTests := true, laidLooks := .later }
def TextBackCardSaid : Prop := Claim7.holds Tryd.pinned (.plain (OpenSpec.ofChange textBackSpec)) textBackCard

/-- THE TIED CARD OF 'synodlaw17.TextQuotes'. -/
def textQuotesCard : Claim7 := { stood := { row := textQuotesRow, standIns := [], harness := (true, "e0942e8be1bc9153da99350b03cb7c01f1d3ecc42d14ea9f760570adfc4add0a"), looks := true }, kinds := [], alts := [], laidByText := true, laidKinds := [.data, .data, .data, .data, .sentinel, .sentinel, .pinned], laidTests := true, laidLooks := .later }
def TextQuotesCardSaid : Prop := Claim7.holds Tryd.pinned (.plain (OpenSpec.ofChange textQuotesSpec)) textQuotesCard

/-- THE TIED CARD OF 'synodlaw17.TextBlanks'. -/
def textBlanksCard : Claim7 := { stood := { row := textBlanksRow, standIns := [], harness := (true, "e0942e8be1bc9153da99350b03cb7c01f1d3ecc42d14ea9f760570adfc4add0a"), looks := true }, kinds := [], alts := [], laidByText := true, laidKinds := [.data, .data, .data, .data, .sentinel, .sentinel, .pinned], laidTests := true, laidLooks := .later }
def TextBlanksCardSaid : Prop := Claim7.holds Tryd.pinned (.plain (OpenSpec.ofChange textBlanksSpec)) textBlanksCard

/-- THE TIED CARD OF 'synodlaw17.TextOpts'. -/
def textOptsCard : Claim7 := { stood := { row := textOptsRow, standIns := [], harness := (true, "e0942e8be1bc9153da99350b03cb7c01f1d3ecc42d14ea9f760570adfc4add0a"), looks := true }, kinds := [], alts := [], laidByText := true, laidKinds := [.data, .data, .data, .data, .sentinel, .sentinel, .pinned], laidTests := true, laidLooks := .later }
def TextOptsCardSaid : Prop := Claim7.holds Tryd.pinned (.plain (OpenSpec.ofChange textOptsSpec)) textOptsCard

/-- THE TIED CARD OF 'synodlaw17.TextOptsBack'. -/
def textOptsBackCard : Claim7 := { stood := { row := textOptsBackRow, standIns := [], harness := (true, "e0942e8be1bc9153da99350b03cb7c01f1d3ecc42d14ea9f760570adfc4add0a"), looks := true }, kinds := [], alts := [], laidByText := true, laidKinds := [.data, .data, .data, .data, .sentinel, .sentinel, .pinned], laidTests := true, laidLooks := .later }
def TextOptsBackCardSaid : Prop := Claim7.holds Tryd.pinned (.plain (OpenSpec.ofChange textOptsBackSpec)) textOptsBackCard

/-- THE TIED CARD OF 'synodlaw17.TextEvents'. -/
def textEventsCard : Claim7 := { stood := { row := textEventsRow, standIns := [], harness := (true, "e0942e8be1bc9153da99350b03cb7c01f1d3ecc42d14ea9f760570adfc4add0a"), looks := true }, kinds := [], alts := [], laidByText := true, laidKinds := [.data, .data, .data, .data, .sentinel, .sentinel, .pinned], laidTests := true, laidLooks := .later }
def TextEventsCardSaid : Prop := Claim7.holds Tryd.pinned (.plain (OpenSpec.ofChange textEventsSpec)) textEventsCard

/-- THE SECOND FORM's CARD OF 'synodlaw17.TextWords'. -/
def textWordsUptoCard : Claim7 := { stood := { row := textWordsUptoRow, standIns := [], harness := (true, "e0942e8be1bc9153da99350b03cb7c01f1d3ecc42d14ea9f760570adfc4add0a"), looks := true }, kinds := [], alts := [], laidByText := true, laidKinds := [.data, .data, .data, .data, .sentinel, .sentinel, .pinned], laidTests := true, laidLooks := .later }
def TextWordsUptoCardSaid : Prop := Claim7.holds Tryd.pinned (.plain (OpenSpec.upto textWordsSpec)) textWordsUptoCard

/-- THE SECOND FORM's CARD OF 'synodlaw17.TextActs'. -/
def textActsUptoCard : Claim7 := { stood := { row := textActsUptoRow, standIns := [], harness := (true, "e0942e8be1bc9153da99350b03cb7c01f1d3ecc42d14ea9f760570adfc4add0a"), looks := true }, kinds := [], alts := [], laidByText := true, laidKinds := [.data, .data, .data, .data, .sentinel, .sentinel, .pinned], laidTests := true, laidLooks := .later }
def TextActsUptoCardSaid : Prop := Claim7.holds Tryd.pinned (.plain (OpenSpec.upto textActsSpec)) textActsUptoCard

/-- THE SECOND FORM's CARD OF 'synodlaw17.TextBack'. -/
def textBackUptoCard : Claim7 := { stood := { row := textBackUptoRow, standIns := [], harness := (true, "e0942e8be1bc9153da99350b03cb7c01f1d3ecc42d14ea9f760570adfc4add0a"), looks := true }, kinds := [], alts := [], laidByText := true, laidKinds := [.data, .data, .data, .data, .sentinel, .sentinel, .pinned], laidTests := true, laidLooks := .later }
def TextBackUptoCardSaid : Prop := Claim7.holds Tryd.pinned (.plain (OpenSpec.upto textBackSpec)) textBackUptoCard

/-- THE SECOND FORM's CARD OF 'synodlaw17.TextQuotes'. -/
def textQuotesUptoCard : Claim7 := { stood := { row := textQuotesUptoRow, standIns := [], harness := (true, "e0942e8be1bc9153da99350b03cb7c01f1d3ecc42d14ea9f760570adfc4add0a"), looks := true }, kinds := [], alts := [], laidByText := true, laidKinds := [.data, .data, .data, .data, .sentinel, .sentinel, .pinned], laidTests := true, laidLooks := .later }
def TextQuotesUptoCardSaid : Prop := Claim7.holds Tryd.pinned (.plain (OpenSpec.upto textQuotesSpec)) textQuotesUptoCard

/-- THE SECOND FORM's CARD OF 'synodlaw17.TextBlanks'. -/
def textBlanksUptoCard : Claim7 := { stood := { row := textBlanksUptoRow, standIns := [], harness := (true, "e0942e8be1bc9153da99350b03cb7c01f1d3ecc42d14ea9f760570adfc4add0a"), looks := true }, kinds := [], alts := [], laidByText := true, laidKinds := [.data, .data, .data, .data, .sentinel, .sentinel, .pinned], laidTests := true, laidLooks := .later }
def TextBlanksUptoCardSaid : Prop := Claim7.holds Tryd.pinned (.plain (OpenSpec.upto textBlanksSpec)) textBlanksUptoCard

/-- THE SECOND FORM's CARD OF 'synodlaw17.TextOpts'. -/
def textOptsUptoCard : Claim7 := { stood := { row := textOptsUptoRow, standIns := [], harness := (true, "e0942e8be1bc9153da99350b03cb7c01f1d3ecc42d14ea9f760570adfc4add0a"), looks := true }, kinds := [], alts := [], laidByText := true, laidKinds := [.data, .data, .data, .data, .sentinel, .sentinel, .pinned], laidTests := true, laidLooks := .later }
def TextOptsUptoCardSaid : Prop := Claim7.holds Tryd.pinned (.plain (OpenSpec.upto textOptsSpec)) textOptsUptoCard

/-- THE SECOND FORM's CARD OF 'synodlaw17.TextOptsBack'. -/
def textOptsBackUptoCard : Claim7 := { stood := { row := textOptsBackUptoRow, standIns := [], harness := (true, "e0942e8be1bc9153da99350b03cb7c01f1d3ecc42d14ea9f760570adfc4add0a"), looks := true }, kinds := [], alts := [], laidByText := true, laidKinds := [.data, .data, .data, .data, .sentinel, .sentinel, .pinned], laidTests := true, laidLooks := .later }
def TextOptsBackUptoCardSaid : Prop := Claim7.holds Tryd.pinned (.plain (OpenSpec.upto textOptsBackSpec)) textOptsBackUptoCard

/-- THE SECOND FORM's CARD OF 'synodlaw17.TextEvents'. -/
def textEventsUptoCard : Claim7 := { stood := { row := textEventsUptoRow, standIns := [], harness := (true, "e0942e8be1bc9153da99350b03cb7c01f1d3ecc42d14ea9f760570adfc4add0a"), looks := true }, kinds := [], alts := [], laidByText := true, laidKinds := [.data, .data, .data, .data, .sentinel, .sentinel, .pinned], laidTests := true, laidLooks := .later }
def TextEventsUptoCardSaid : Prop := Claim7.holds Tryd.pinned (.plain (OpenSpec.upto textEventsSpec)) textEventsUptoCard
end Rows
end Go.Proofs.YtbcnegennmpliaaDoor

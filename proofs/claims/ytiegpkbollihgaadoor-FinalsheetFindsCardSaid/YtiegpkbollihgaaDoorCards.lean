/-
  DERIVED. GIVEN WITH THE SEED: THE CARDS: each row of YtiegpkbollihgaaDoorRows.lean that lists a variable, with what it lists TIED to the program's text (the seventh form; the later family's looks); each row that meets fmt, with fmt's text TOLD by the authors' own Lean function (tested against real Go, not proved from fmt's source: count such statements apart). THE CARD IS WHAT COUNTS. Prove the row's statement (the work); the ties are given (YtiegpkbollihgaaDoorTie.lean); close each card by the builder's one call (the guide's Derived/Test/ToyasCard.lean, 'card_holds'). Laid BY PROGRAM, IN A SANDBOX (cutbox-door.mjs). By AI agents, Wed Nov 11 2026. No macro, syntax, notation, axiom, sorry.
-/
import Derived.Test.YtiegpkbollihgaaDoorRows
import GoSem.ClaimSeven
namespace Go.Proofs.YtiegpkbollihgaaDoor
namespace Rows

/-- THE TIED CARD OF 'humpyardlaw38.FinalsheetExact'. -/
def finalsheetExactCard : Claim7 := { stood := { row := finalsheetExactRow, standIns := [], harness := (true, "a9f366d0e059f80517544948132ea356e80485c5830a53334d4018867354d92e"), looks := false }, kinds := [], alts := [], laidByText := true, laidKinds := [.data, .data, .data, .data, .pinned], laidTests := true, laidLooks := .later }
def FinalsheetExactCardSaid : Prop := Claim7.holds Tryd.pinned (.plain (OpenSpec.ofChange finalsheetExactSpec)) finalsheetExactCard

/-- THE TIED CARD OF 'humpyardlaw38.FinalsheetReads'. -/
def finalsheetReadsCard : Claim7 := { stood := { row := finalsheetReadsRow, standIns := [], harness := (true, "a9f366d0e059f80517544948132ea356e80485c5830a53334d4018867354d92e"), looks := false }, kinds := [], alts := [], laidByText := true, laidKinds := [.data, .data, .data, .data, .pinned], laidTests := true, laidLooks := .later }
def FinalsheetReadsCardSaid : Prop := Claim7.holds Tryd.pinned (.plain (OpenSpec.ofChange finalsheetReadsSpec)) finalsheetReadsCard

/-- THE TIED CARD OF 'humpyardlaw38.FinalsheetRoundTrips'. -/
def finalsheetRoundTripsCard : Claim7 := { stood := { row := finalsheetRoundTripsRow, standIns := [], harness := (true, "a9f366d0e059f80517544948132ea356e80485c5830a53334d4018867354d92e"), looks := false }, kinds := [], alts := [], laidByText := true, laidKinds := [.data, .data, .data, .data, .pinned], laidTests := true, laidLooks := .later }
def FinalsheetRoundTripsCardSaid : Prop := Claim7.holds Tryd.pinned (.plain (OpenSpec.ofChange finalsheetRoundTripsSpec)) finalsheetRoundTripsCard

/-- THE TIED CARD OF 'humpyardlaw38.FinalsheetFinds'. -/
def finalsheetFindsCard : Claim7 := { stood := { row := finalsheetFindsRow, standIns := [], harness := (true, "a9f366d0e059f80517544948132ea356e80485c5830a53334d4018867354d92e"), looks := false }, kinds := [], alts := [], laidByText := true, laidKinds := [.data, .data, .data, .data, .pinned], laidTests := true, laidLooks := .later }
def FinalsheetFindsCardSaid : Prop := Claim7.holds Tryd.pinned (.plain (OpenSpec.ofChange finalsheetFindsSpec)) finalsheetFindsCard

/-- THE SECOND FORM's CARD OF 'humpyardlaw38.FinalsheetExact'. -/
def finalsheetExactUptoCard : Claim7 := { stood := { row := finalsheetExactUptoRow, standIns := [], harness := (true, "a9f366d0e059f80517544948132ea356e80485c5830a53334d4018867354d92e"), looks := false }, kinds := [], alts := [], laidByText := true, laidKinds := [.data, .data, .data, .data, .pinned], laidTests := true, laidLooks := .later }
def FinalsheetExactUptoCardSaid : Prop := Claim7.holds Tryd.pinned (.plain (OpenSpec.upto finalsheetExactSpec)) finalsheetExactUptoCard

/-- THE SECOND FORM's CARD OF 'humpyardlaw38.FinalsheetReads'. -/
def finalsheetReadsUptoCard : Claim7 := { stood := { row := finalsheetReadsUptoRow, standIns := [], harness := (true, "a9f366d0e059f80517544948132ea356e80485c5830a53334d4018867354d92e"), looks := false }, kinds := [], alts := [], laidByText := true, laidKinds := [.data, .data, .data, .data, .pinned], laidTests := true, laidLooks := .later }
def FinalsheetReadsUptoCardSaid : Prop := Claim7.holds Tryd.pinned (.plain (OpenSpec.upto finalsheetReadsSpec)) finalsheetReadsUptoCard

/-- THE SECOND FORM's CARD OF 'humpyardlaw38.FinalsheetRoundTrips'. -/
def finalsheetRoundTripsUptoCard : Claim7 := { stood := { row := finalsheetRoundTripsUptoRow, standIns := [], harness := (true, "a9f366d0e059f80517544948132ea356e80485c5830a53334d4018867354d92e"), looks := false }, kinds := [], alts := [], laidByText := true, laidKinds := [.data, .data, .data, .data, .pinned], laidTests := true, laidLooks := .later }
def FinalsheetRoundTripsUptoCardSaid : Prop := Claim7.holds Tryd.pinned (.plain (OpenSpec.upto finalsheetRoundTripsSpec)) finalsheetRoundTripsUptoCard

/-- THE SECOND FORM's CARD OF 'humpyardlaw38.FinalsheetFinds'. -/
def finalsheetFindsUptoCard : Claim7 := { stood := { row := finalsheetFindsUptoRow, standIns := [], harness := (true, "a9f366d0e059f80517544948132ea356e80485c5830a53334d4018867354d92e"), looks := false }, kinds := [], alts := [], laidByText := true, laidKinds := [.data, .data, .data, .data, .pinned], laidTests := true, laidLooks := .later }
def FinalsheetFindsUptoCardSaid : Prop := Claim7.holds Tryd.pinned (.plain (OpenSpec.upto finalsheetFindsSpec)) finalsheetFindsUptoCard
end Rows
end Go.Proofs.YtiegpkbollihgaaDoor

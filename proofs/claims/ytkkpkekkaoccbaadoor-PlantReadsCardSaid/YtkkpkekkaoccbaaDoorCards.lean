/-
  DERIVED. GIVEN WITH THE SEED: THE CARDS: each row of YtkkpkekkaoccbaaDoorRows.lean that lists a variable, with what it lists TIED to the program's text (the seventh form; the later family's looks); each row that meets fmt, with fmt's text TOLD by the authors' own Lean function (tested against real Go, not proved from fmt's source: count such statements apart). THE CARD IS WHAT COUNTS. Prove the row's statement (the work); the ties are given (YtkkpkekkaoccbaaDoorTie.lean); close each card by the builder's one call (the guide's Derived/Test/ToyasCard.lean, 'card_holds'). Laid BY PROGRAM, IN A SANDBOX (cutbox-door.mjs). By AI agents, Wed Nov 11 2026. No macro, syntax, notation, axiom, sorry.
-/
import Derived.Test.YtkkpkekkaoccbaaDoorRows
import GoSem.ClaimSeven
namespace Go.Proofs.YtkkpkekkaoccbaaDoor
namespace Rows

/-- THE TIED CARD OF 'humpyardlaw26.PlantReads'. -/
def plantReadsCard : Claim7 := { stood := { row := plantReadsRow, standIns := [], harness := (true, "4d1edd69ed59b814793db8ae463d620daa1da9ed04dc671d17be9af2f75c938d"), looks := false }, kinds := [], alts := [], laidByText := true, laidKinds := [.data, .pinned], laidTests := true, laidLooks := .later }
def PlantReadsCardSaid : Prop := Claim7.holds Tryd.pinned (.plain (OpenSpec.ofChange plantReadsSpec)) plantReadsCard

/-- THE TIED CARD OF 'humpyardlaw26.PlantMeets'. -/
def plantMeetsCard : Claim7 := { stood := { row := plantMeetsRow, standIns := [], harness := (true, "4d1edd69ed59b814793db8ae463d620daa1da9ed04dc671d17be9af2f75c938d"), looks := false }, kinds := [], alts := [], laidByText := true, laidKinds := [.data, .pinned], laidTests := true, laidLooks := .later }
def PlantMeetsCardSaid : Prop := Claim7.holds Tryd.pinned (.plain (OpenSpec.ofChange plantMeetsSpec)) plantMeetsCard

/-- THE TIED CARD OF 'humpyardlaw26.PlantTurns'. -/
def plantTurnsCard : Claim7 := { stood := { row := plantTurnsRow, standIns := [], harness := (true, "4d1edd69ed59b814793db8ae463d620daa1da9ed04dc671d17be9af2f75c938d"), looks := false }, kinds := [], alts := [], laidByText := true, laidKinds := [.data, .pinned], laidTests := true, laidLooks := .later }
def PlantTurnsCardSaid : Prop := Claim7.holds Tryd.pinned (.plain (OpenSpec.ofChange plantTurnsSpec)) plantTurnsCard

/-- THE TIED CARD OF 'humpyardlaw26.PlantExact'. -/
def plantExactCard : Claim7 := { stood := { row := plantExactRow, standIns := [], harness := (true, "4d1edd69ed59b814793db8ae463d620daa1da9ed04dc671d17be9af2f75c938d"), looks := false }, kinds := [], alts := [], laidByText := true, laidKinds := [.data, .data, .data, .data, .pinned], laidTests := true, laidLooks := .later }
def PlantExactCardSaid : Prop := Claim7.holds Tryd.pinned (.plain (OpenSpec.ofChange plantExactSpec)) plantExactCard

/-- THE TIED CARD OF 'humpyardlaw26.PlantRoundTrips'. -/
def plantRoundTripsCard : Claim7 := { stood := { row := plantRoundTripsRow, standIns := [], harness := (true, "4d1edd69ed59b814793db8ae463d620daa1da9ed04dc671d17be9af2f75c938d"), looks := false }, kinds := [], alts := [], laidByText := true, laidKinds := [.data, .data, .data, .data, .pinned], laidTests := true, laidLooks := .later }
def PlantRoundTripsCardSaid : Prop := Claim7.holds Tryd.pinned (.plain (OpenSpec.ofChange plantRoundTripsSpec)) plantRoundTripsCard

/-- THE SECOND FORM's CARD OF 'humpyardlaw26.PlantReads'. -/
def plantReadsUptoCard : Claim7 := { stood := { row := plantReadsUptoRow, standIns := [], harness := (true, "4d1edd69ed59b814793db8ae463d620daa1da9ed04dc671d17be9af2f75c938d"), looks := false }, kinds := [], alts := [], laidByText := true, laidKinds := [.data, .pinned], laidTests := true, laidLooks := .later }
def PlantReadsUptoCardSaid : Prop := Claim7.holds Tryd.pinned (.plain (OpenSpec.upto plantReadsSpec)) plantReadsUptoCard

/-- THE SECOND FORM's CARD OF 'humpyardlaw26.PlantMeets'. -/
def plantMeetsUptoCard : Claim7 := { stood := { row := plantMeetsUptoRow, standIns := [], harness := (true, "4d1edd69ed59b814793db8ae463d620daa1da9ed04dc671d17be9af2f75c938d"), looks := false }, kinds := [], alts := [], laidByText := true, laidKinds := [.data, .pinned], laidTests := true, laidLooks := .later }
def PlantMeetsUptoCardSaid : Prop := Claim7.holds Tryd.pinned (.plain (OpenSpec.upto plantMeetsSpec)) plantMeetsUptoCard

/-- THE SECOND FORM's CARD OF 'humpyardlaw26.PlantTurns'. -/
def plantTurnsUptoCard : Claim7 := { stood := { row := plantTurnsUptoRow, standIns := [], harness := (true, "4d1edd69ed59b814793db8ae463d620daa1da9ed04dc671d17be9af2f75c938d"), looks := false }, kinds := [], alts := [], laidByText := true, laidKinds := [.data, .pinned], laidTests := true, laidLooks := .later }
def PlantTurnsUptoCardSaid : Prop := Claim7.holds Tryd.pinned (.plain (OpenSpec.upto plantTurnsSpec)) plantTurnsUptoCard

/-- THE SECOND FORM's CARD OF 'humpyardlaw26.PlantExact'. -/
def plantExactUptoCard : Claim7 := { stood := { row := plantExactUptoRow, standIns := [], harness := (true, "4d1edd69ed59b814793db8ae463d620daa1da9ed04dc671d17be9af2f75c938d"), looks := false }, kinds := [], alts := [], laidByText := true, laidKinds := [.data, .data, .data, .data, .pinned], laidTests := true, laidLooks := .later }
def PlantExactUptoCardSaid : Prop := Claim7.holds Tryd.pinned (.plain (OpenSpec.upto plantExactSpec)) plantExactUptoCard

/-- THE SECOND FORM's CARD OF 'humpyardlaw26.PlantRoundTrips'. -/
def plantRoundTripsUptoCard : Claim7 := { stood := { row := plantRoundTripsUptoRow, standIns := [], harness := (true, "4d1edd69ed59b814793db8ae463d620daa1da9ed04dc671d17be9af2f75c938d"), looks := false }, kinds := [], alts := [], laidByText := true, laidKinds := [.data, .data, .data, .data, .pinned], laidTests := true, laidLooks := .later }
def PlantRoundTripsUptoCardSaid : Prop := Claim7.holds Tryd.pinned (.plain (OpenSpec.upto plantRoundTripsSpec)) plantRoundTripsUptoCard
end Rows
end Go.Proofs.YtkkpkekkaoccbaaDoor

/-
  DERIVED. GIVEN WITH THE SEED: THE CARDS: each row of YtppfnndafbhegaaGreatDoorRows.lean that lists a variable, with what it lists TIED to the program's text (the seventh form; the later family's looks); each row that meets fmt, with fmt's text TOLD by the authors' own Lean function (tested against real Go, not proved from fmt's source: count such statements apart). THE CARD IS WHAT COUNTS. Prove the row's statement (the work); the ties are given (YtppfnndafbhegaaGreatDoorTie.lean); close each card by the builder's one call (the guide's Derived/Test/ToyasCard.lean, 'card_holds'). Laid BY PROGRAM, IN A SANDBOX (cutbox-door.mjs). By AI agents, Wed Nov 11 2026. No macro, syntax, notation, axiom, sorry.
-/
import Derived.Test.YtppfnndafbhegaaGreatDoorRows
import GoSem.ClaimSeven
namespace Go.Proofs.YtppfnndafbhegaaGreatDoor
namespace Rows

/-- THE TIED CARD OF 'flightdecklaw48.ChartcheckReaches'. -/
def chartcheckReachesCard : Claim7 := { stood := { row := chartcheckReachesRow, standIns := [], harness := (true, "16bcb538407a7e34d49705c629878eda5941c7b367ca5cd21dbf7ccba097e956"), looks := false }, kinds := [], alts := [], laidByText := true, laidKinds := [.data, .pinned], laidTests := true, laidLooks := .later }
def ChartcheckReachesCardSaid : Prop := Claim7.holds Tryz.pinned (.plain (OpenSpec.ofChange chartcheckReachesSpec)) chartcheckReachesCard

/-- THE TIED CARD OF 'flightdecklaw48.ChartcheckShows'. -/
def chartcheckShowsCard : Claim7 := { stood := { row := chartcheckShowsRow, standIns := [], harness := (true, "16bcb538407a7e34d49705c629878eda5941c7b367ca5cd21dbf7ccba097e956"), looks := false }, kinds := [], alts := [], laidByText := true, laidKinds := [.data, .pinned], laidTests := true, laidLooks := .later }
def ChartcheckShowsCardSaid : Prop := Claim7.holds Tryz.pinned (.plain (OpenSpec.ofChange chartcheckShowsSpec)) chartcheckShowsCard

/-- THE TIED CARD OF 'flightdecklaw48.ChartcheckFinds'. -/
def chartcheckFindsCard : Claim7 := { stood := { row := chartcheckFindsRow, standIns := [], harness := (true, "16bcb538407a7e34d49705c629878eda5941c7b367ca5cd21dbf7ccba097e956"), looks := false }, kinds := [], alts := [], laidByText := true, laidKinds := [.data, .pinned], laidTests := true, laidLooks := .later }
def ChartcheckFindsCardSaid : Prop := Claim7.holds Tryz.pinned (.plain (OpenSpec.ofChange chartcheckFindsSpec)) chartcheckFindsCard

/-- THE TIED CARD OF 'flightdecklaw48.ChartcheckClosed'. -/
def chartcheckClosedCard : Claim7 := { stood := { row := chartcheckClosedRow, standIns := [], harness := (true, "16bcb538407a7e34d49705c629878eda5941c7b367ca5cd21dbf7ccba097e956"), looks := false }, kinds := [], alts := [], laidByText := true, laidKinds := [.data, .pinned], laidTests := true, laidLooks := .later }
def ChartcheckClosedCardSaid : Prop := Claim7.holds Tryz.pinned (.plain (OpenSpec.ofChange chartcheckClosedSpec)) chartcheckClosedCard

/-- THE TIED CARD OF 'flightdecklaw48.ChartcheckWitnesses'. -/
def chartcheckWitnessesCard : Claim7 := { stood := { row := chartcheckWitnessesRow, standIns := [], harness := (true, "16bcb538407a7e34d49705c629878eda5941c7b367ca5cd21dbf7ccba097e956"), looks := false }, kinds := [], alts := [], laidByText := true, laidKinds := [.data, .pinned], laidTests := true, laidLooks := .later }
def ChartcheckWitnessesCardSaid : Prop := Claim7.holds Tryz.pinned (.plain (OpenSpec.ofChange chartcheckWitnessesSpec)) chartcheckWitnessesCard

/-- THE TIED CARD OF 'flightdecklaw48.ChartcheckSound'. -/
def chartcheckSoundCard : Claim7 := { stood := { row := chartcheckSoundRow, standIns := [], harness := (true, "16bcb538407a7e34d49705c629878eda5941c7b367ca5cd21dbf7ccba097e956"), looks := false }, kinds := [], alts := [], laidByText := true, laidKinds := [.data, .pinned], laidTests := true, laidLooks := .later }
def ChartcheckSoundCardSaid : Prop := Claim7.holds Tryz.pinned (.plain (OpenSpec.ofChange chartcheckSoundSpec)) chartcheckSoundCard

/-- THE TIED CARD OF 'flightdecklaw48.ChartcheckCompares'. -/
def chartcheckComparesCard : Claim7 := { stood := { row := chartcheckComparesRow, standIns := [], harness := (true, "16bcb538407a7e34d49705c629878eda5941c7b367ca5cd21dbf7ccba097e956"), looks := false }, kinds := [], alts := [], laidByText := true, laidKinds := [.data, .pinned], laidTests := true, laidLooks := .later }
def ChartcheckComparesCardSaid : Prop := Claim7.holds Tryz.pinned (.plain (OpenSpec.ofChange chartcheckComparesSpec)) chartcheckComparesCard

/-- THE TIED CARD OF 'flightdecklaw48.ChartcheckFlattens'. -/
def chartcheckFlattensCard : Claim7 := { stood := { row := chartcheckFlattensRow, standIns := [], harness := (true, "16bcb538407a7e34d49705c629878eda5941c7b367ca5cd21dbf7ccba097e956"), looks := false }, kinds := [], alts := [], laidByText := true, laidKinds := [.data, .data, .data, .data, .pinned], laidTests := true, laidLooks := .later }
def ChartcheckFlattensCardSaid : Prop := Claim7.holds Tryz.pinned (.plain (OpenSpec.ofChange chartcheckFlattensSpec)) chartcheckFlattensCard

/-- THE TIED CARD OF 'flightdecklaw48.ChartcheckAlike'. -/
def chartcheckAlikeCard : Claim7 := { stood := { row := chartcheckAlikeRow, standIns := [], harness := (true, "16bcb538407a7e34d49705c629878eda5941c7b367ca5cd21dbf7ccba097e956"), looks := false }, kinds := [], alts := [], laidByText := true, laidKinds := [.data, .data, .data, .data, .pinned], laidTests := true, laidLooks := .later }
def ChartcheckAlikeCardSaid : Prop := Claim7.holds Tryz.pinned (.plain (OpenSpec.ofChange chartcheckAlikeSpec)) chartcheckAlikeCard

/-- THE TIED CARD OF 'flightdecktop.TopCharts'. -/
def topChartsCard : Claim7 := { stood := { row := topChartsRow, standIns := [], harness := (true, "16bcb538407a7e34d49705c629878eda5941c7b367ca5cd21dbf7ccba097e956"), looks := false }, kinds := [], alts := [], laidByText := true, laidKinds := [.data, .data, .data, .data, .pinned], laidTests := true, laidLooks := .later }
def TopChartsCardSaid : Prop := Claim7.holds Tryz.pinned (.plain (OpenSpec.ofChange topChartsSpec)) topChartsCard

/-- THE SECOND FORM's CARD OF 'flightdecklaw48.ChartcheckReaches'. -/
def chartcheckReachesUptoCard : Claim7 := { stood := { row := chartcheckReachesUptoRow, standIns := [], harness := (true, "16bcb538407a7e34d49705c629878eda5941c7b367ca5cd21dbf7ccba097e956"), looks := false }, kinds := [], alts := [], laidByText := true, laidKinds := [.data, .pinned], laidTests := true, laidLooks := .later }
def ChartcheckReachesUptoCardSaid : Prop := Claim7.holds Tryz.pinned (.plain (OpenSpec.upto chartcheckReachesSpec)) chartcheckReachesUptoCard

/-- THE SECOND FORM's CARD OF 'flightdecklaw48.ChartcheckShows'. -/
def chartcheckShowsUptoCard : Claim7 := { stood := { row := chartcheckShowsUptoRow, standIns := [], harness := (true, "16bcb538407a7e34d49705c629878eda5941c7b367ca5cd21dbf7ccba097e956"), looks := false }, kinds := [], alts := [], laidByText := true, laidKinds := [.data, .pinned], laidTests := true, laidLooks := .later }
def ChartcheckShowsUptoCardSaid : Prop := Claim7.holds Tryz.pinned (.plain (OpenSpec.upto chartcheckShowsSpec)) chartcheckShowsUptoCard

/-- THE SECOND FORM's CARD OF 'flightdecklaw48.ChartcheckFinds'. -/
def chartcheckFindsUptoCard : Claim7 := { stood := { row := chartcheckFindsUptoRow, standIns := [], harness := (true, "16bcb538407a7e34d49705c629878eda5941c7b367ca5cd21dbf7ccba097e956"), looks := false }, kinds := [], alts := [], laidByText := true, laidKinds := [.data, .pinned], laidTests := true, laidLooks := .later }
def ChartcheckFindsUptoCardSaid : Prop := Claim7.holds Tryz.pinned (.plain (OpenSpec.upto chartcheckFindsSpec)) chartcheckFindsUptoCard

/-- THE SECOND FORM's CARD OF 'flightdecklaw48.ChartcheckClosed'. -/
def chartcheckClosedUptoCard : Claim7 := { stood := { row := chartcheckClosedUptoRow, standIns := [], harness := (true, "16bcb538407a7e34d49705c629878eda5941c7b367ca5cd21dbf7ccba097e956"), looks := false }, kinds := [], alts := [], laidByText := true, laidKinds := [.data, .pinned], laidTests := true, laidLooks := .later }
def ChartcheckClosedUptoCardSaid : Prop := Claim7.holds Tryz.pinned (.plain (OpenSpec.upto chartcheckClosedSpec)) chartcheckClosedUptoCard

/-- THE SECOND FORM's CARD OF 'flightdecklaw48.ChartcheckWitnesses'. -/
def chartcheckWitnessesUptoCard : Claim7 := { stood := { row := chartcheckWitnessesUptoRow, standIns := [], harness := (true, "16bcb538407a7e34d49705c629878eda5941c7b367ca5cd21dbf7ccba097e956"), looks := false }, kinds := [], alts := [], laidByText := true, laidKinds := [.data, .pinned], laidTests := true, laidLooks := .later }
def ChartcheckWitnessesUptoCardSaid : Prop := Claim7.holds Tryz.pinned (.plain (OpenSpec.upto chartcheckWitnessesSpec)) chartcheckWitnessesUptoCard

/-- THE SECOND FORM's CARD OF 'flightdecklaw48.ChartcheckSound'. -/
def chartcheckSoundUptoCard : Claim7 := { stood := { row := chartcheckSoundUptoRow, standIns := [], harness := (true, "16bcb538407a7e34d49705c629878eda5941c7b367ca5cd21dbf7ccba097e956"), looks := false }, kinds := [], alts := [], laidByText := true, laidKinds := [.data, .pinned], laidTests := true, laidLooks := .later }
def ChartcheckSoundUptoCardSaid : Prop := Claim7.holds Tryz.pinned (.plain (OpenSpec.upto chartcheckSoundSpec)) chartcheckSoundUptoCard

/-- THE SECOND FORM's CARD OF 'flightdecklaw48.ChartcheckCompares'. -/
def chartcheckComparesUptoCard : Claim7 := { stood := { row := chartcheckComparesUptoRow, standIns := [], harness := (true, "16bcb538407a7e34d49705c629878eda5941c7b367ca5cd21dbf7ccba097e956"), looks := false }, kinds := [], alts := [], laidByText := true, laidKinds := [.data, .pinned], laidTests := true, laidLooks := .later }
def ChartcheckComparesUptoCardSaid : Prop := Claim7.holds Tryz.pinned (.plain (OpenSpec.upto chartcheckComparesSpec)) chartcheckComparesUptoCard

/-- THE SECOND FORM's CARD OF 'flightdecklaw48.ChartcheckFlattens'. -/
def chartcheckFlattensUptoCard : Claim7 := { stood := { row := chartcheckFlattensUptoRow, standIns := [], harness := (true, "16bcb538407a7e34d49705c629878eda5941c7b367ca5cd21dbf7ccba097e956"), looks := false }, kinds := [], alts := [], laidByText := true, laidKinds := [.data, .data, .data, .data, .pinned], laidTests := true, laidLooks := .later }
def ChartcheckFlattensUptoCardSaid : Prop := Claim7.holds Tryz.pinned (.plain (OpenSpec.upto chartcheckFlattensSpec)) chartcheckFlattensUptoCard

/-- THE SECOND FORM's CARD OF 'flightdecklaw48.ChartcheckAlike'. -/
def chartcheckAlikeUptoCard : Claim7 := { stood := { row := chartcheckAlikeUptoRow, standIns := [], harness := (true, "16bcb538407a7e34d49705c629878eda5941c7b367ca5cd21dbf7ccba097e956"), looks := false }, kinds := [], alts := [], laidByText := true, laidKinds := [.data, .data, .data, .data, .pinned], laidTests := true, laidLooks := .later }
def ChartcheckAlikeUptoCardSaid : Prop := Claim7.holds Tryz.pinned (.plain (OpenSpec.upto chartcheckAlikeSpec)) chartcheckAlikeUptoCard

/-- THE SECOND FORM's CARD OF 'flightdecktop.TopCharts'. -/
def topChartsUptoCard : Claim7 := { stood := { row := topChartsUptoRow, standIns := [], harness := (true, "16bcb538407a7e34d49705c629878eda5941c7b367ca5cd21dbf7ccba097e956"), looks := false }, kinds := [], alts := [], laidByText := true, laidKinds := [.data, .data, .data, .data, .pinned], laidTests := true, laidLooks := .later }
def TopChartsUptoCardSaid : Prop := Claim7.holds Tryz.pinned (.plain (OpenSpec.upto topChartsSpec)) topChartsUptoCard
end Rows
end Go.Proofs.YtppfnndafbhegaaGreatDoor

/-
  DERIVED. GIVEN WITH THE SEED: THE CARDS: each row of YtmjgpbohlbakiaaGreatDoorRows.lean that lists a variable, with what it lists TIED to the program's text (the seventh form; the later family's looks); each row that meets fmt, with fmt's text TOLD by the authors' own Lean function (tested against real Go, not proved from fmt's source: count such statements apart). THE CARD IS WHAT COUNTS. Prove the row's statement (the work); the ties are given (YtmjgpbohlbakiaaGreatDoorTie.lean); close each card by the builder's one call (the guide's Derived/Test/ToyasCard.lean, 'card_holds'). Laid BY PROGRAM, IN A SANDBOX (cutbox-door.mjs). By AI agents, Wed Nov 11 2026. No macro, syntax, notation, axiom, sorry.
-/
import Derived.Test.YtmjgpbohlbakiaaGreatDoorRows
import GoSem.ClaimSeven
namespace Go.Proofs.YtmjgpbohlbakiaaGreatDoor
namespace Rows

/-- THE TIED CARD OF 'flightdecklaw47.ChartTexts'. -/
def chartTextsCard : Claim7 := { stood := { row := chartTextsRow, standIns := [], harness := (true, "15a388c5c80cd5095b6e8ae5bee3bc7b7eb52fdd984abf37ce90156bec704dea"), looks := false }, kinds := [], alts := [], laidByText := true, laidKinds := [.data, .pinned], laidTests := true, laidLooks := .later }
def ChartTextsCardSaid : Prop := Claim7.holds Tryz.pinned (.plain (OpenSpec.ofChange chartTextsSpec)) chartTextsCard

/-- THE TIED CARD OF 'flightdecklaw47.ChartKeeps'. -/
def chartKeepsCard : Claim7 := { stood := { row := chartKeepsRow, standIns := [], harness := (true, "15a388c5c80cd5095b6e8ae5bee3bc7b7eb52fdd984abf37ce90156bec704dea"), looks := false }, kinds := [], alts := [], laidByText := true, laidKinds := [.data, .pinned], laidTests := true, laidLooks := .later }
def ChartKeepsCardSaid : Prop := Claim7.holds Tryz.pinned (.plain (OpenSpec.ofChange chartKeepsSpec)) chartKeepsCard

/-- THE TIED CARD OF 'flightdecklaw49.ModesAxes'. -/
def modesAxesCard : Claim7 := { stood := { row := modesAxesRow, standIns := [], harness := (true, "15a388c5c80cd5095b6e8ae5bee3bc7b7eb52fdd984abf37ce90156bec704dea"), looks := false }, kinds := [], alts := [], laidByText := true, laidKinds := [.data, .pinned], laidTests := true, laidLooks := .later }
def ModesAxesCardSaid : Prop := Claim7.holds Tryz.pinned (.plain (OpenSpec.ofChange modesAxesSpec)) modesAxesCard

/-- THE TIED CARD OF 'flightdecklaw49.ModesSources'. -/
def modesSourcesCard : Claim7 := { stood := { row := modesSourcesRow, standIns := [], harness := (true, "15a388c5c80cd5095b6e8ae5bee3bc7b7eb52fdd984abf37ce90156bec704dea"), looks := false }, kinds := [], alts := [], laidByText := true, laidKinds := [.data, .pinned], laidTests := true, laidLooks := .later }
def ModesSourcesCardSaid : Prop := Claim7.holds Tryz.pinned (.plain (OpenSpec.ofChange modesSourcesSpec)) modesSourcesCard

/-- THE TIED CARD OF 'flightdecklaw49.ModesFindings'. -/
def modesFindingsCard : Claim7 := { stood := { row := modesFindingsRow, standIns := [], harness := (true, "15a388c5c80cd5095b6e8ae5bee3bc7b7eb52fdd984abf37ce90156bec704dea"), looks := false }, kinds := [], alts := [], laidByText := true, laidKinds := [.data, .pinned], laidTests := true, laidLooks := .later }
def ModesFindingsCardSaid : Prop := Claim7.holds Tryz.pinned (.plain (OpenSpec.ofChange modesFindingsSpec)) modesFindingsCard

/-- THE SECOND FORM's CARD OF 'flightdecklaw47.ChartTexts'. -/
def chartTextsUptoCard : Claim7 := { stood := { row := chartTextsUptoRow, standIns := [], harness := (true, "15a388c5c80cd5095b6e8ae5bee3bc7b7eb52fdd984abf37ce90156bec704dea"), looks := false }, kinds := [], alts := [], laidByText := true, laidKinds := [.data, .pinned], laidTests := true, laidLooks := .later }
def ChartTextsUptoCardSaid : Prop := Claim7.holds Tryz.pinned (.plain (OpenSpec.upto chartTextsSpec)) chartTextsUptoCard

/-- THE SECOND FORM's CARD OF 'flightdecklaw47.ChartKeeps'. -/
def chartKeepsUptoCard : Claim7 := { stood := { row := chartKeepsUptoRow, standIns := [], harness := (true, "15a388c5c80cd5095b6e8ae5bee3bc7b7eb52fdd984abf37ce90156bec704dea"), looks := false }, kinds := [], alts := [], laidByText := true, laidKinds := [.data, .pinned], laidTests := true, laidLooks := .later }
def ChartKeepsUptoCardSaid : Prop := Claim7.holds Tryz.pinned (.plain (OpenSpec.upto chartKeepsSpec)) chartKeepsUptoCard

/-- THE SECOND FORM's CARD OF 'flightdecklaw49.ModesAxes'. -/
def modesAxesUptoCard : Claim7 := { stood := { row := modesAxesUptoRow, standIns := [], harness := (true, "15a388c5c80cd5095b6e8ae5bee3bc7b7eb52fdd984abf37ce90156bec704dea"), looks := false }, kinds := [], alts := [], laidByText := true, laidKinds := [.data, .pinned], laidTests := true, laidLooks := .later }
def ModesAxesUptoCardSaid : Prop := Claim7.holds Tryz.pinned (.plain (OpenSpec.upto modesAxesSpec)) modesAxesUptoCard

/-- THE SECOND FORM's CARD OF 'flightdecklaw49.ModesSources'. -/
def modesSourcesUptoCard : Claim7 := { stood := { row := modesSourcesUptoRow, standIns := [], harness := (true, "15a388c5c80cd5095b6e8ae5bee3bc7b7eb52fdd984abf37ce90156bec704dea"), looks := false }, kinds := [], alts := [], laidByText := true, laidKinds := [.data, .pinned], laidTests := true, laidLooks := .later }
def ModesSourcesUptoCardSaid : Prop := Claim7.holds Tryz.pinned (.plain (OpenSpec.upto modesSourcesSpec)) modesSourcesUptoCard

/-- THE SECOND FORM's CARD OF 'flightdecklaw49.ModesFindings'. -/
def modesFindingsUptoCard : Claim7 := { stood := { row := modesFindingsUptoRow, standIns := [], harness := (true, "15a388c5c80cd5095b6e8ae5bee3bc7b7eb52fdd984abf37ce90156bec704dea"), looks := false }, kinds := [], alts := [], laidByText := true, laidKinds := [.data, .pinned], laidTests := true, laidLooks := .later }
def ModesFindingsUptoCardSaid : Prop := Claim7.holds Tryz.pinned (.plain (OpenSpec.upto modesFindingsSpec)) modesFindingsUptoCard
end Rows
end Go.Proofs.YtmjgpbohlbakiaaGreatDoor

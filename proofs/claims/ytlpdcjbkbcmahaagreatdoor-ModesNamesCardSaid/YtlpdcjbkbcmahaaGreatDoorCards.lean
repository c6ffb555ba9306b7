/-
  DERIVED. GIVEN WITH THE SEED: THE CARDS: each row of YtlpdcjbkbcmahaaGreatDoorRows.lean that lists a variable, with what it lists TIED to the program's text (the seventh form; the later family's looks); each row that meets fmt, with fmt's text TOLD by the authors' own Lean function (tested against real Go, not proved from fmt's source: count such statements apart). THE CARD IS WHAT COUNTS. Prove the row's statement (the work); the ties are given (YtlpdcjbkbcmahaaGreatDoorTie.lean); close each card by the builder's one call (the guide's Derived/Test/ToyasCard.lean, 'card_holds'). Laid BY PROGRAM, IN A SANDBOX (cutbox-door.mjs). By AI agents, Wed Nov 11 2026. No macro, syntax, notation, axiom, sorry.
-/
import Derived.Test.YtlpdcjbkbcmahaaGreatDoorRows
import GoSem.ClaimSeven
namespace Go.Proofs.YtlpdcjbkbcmahaaGreatDoor
namespace Rows

/-- THE TIED CARD OF 'flightdecklaw49.ModesSteps'. -/
def modesStepsCard : Claim7 := { stood := { row := modesStepsRow, standIns := [], harness := (true, "06cbf52145783096ea841838d4921627ed529f32b5add8ab30d636bbfb0cf2e5"), looks := false }, kinds := [], alts := [], laidByText := true, laidKinds := [.data, .pinned], laidTests := true, laidLooks := .later }
def ModesStepsCardSaid : Prop := Claim7.holds Tryz.pinned (.plain (OpenSpec.ofChange modesStepsSpec)) modesStepsCard

/-- THE TIED CARD OF 'flightdecktop.TopModes'. -/
def topModesCard : Claim7 := { stood := { row := topModesRow, standIns := [], harness := (true, "06cbf52145783096ea841838d4921627ed529f32b5add8ab30d636bbfb0cf2e5"), looks := false }, kinds := [], alts := [], laidByText := true, laidKinds := [.data, .pinned], laidTests := true, laidLooks := .later }
def TopModesCardSaid : Prop := Claim7.holds Tryz.pinned (.plain (OpenSpec.ofChange topModesSpec)) topModesCard

/-- THE TIED CARD OF 'flightdecklaw49.ModesValues'. -/
def modesValuesCard : Claim7 := { stood := { row := modesValuesRow, standIns := [], harness := (true, "06cbf52145783096ea841838d4921627ed529f32b5add8ab30d636bbfb0cf2e5"), looks := false }, kinds := [], alts := [], laidByText := true, laidKinds := [.data, .pinned], laidTests := true, laidLooks := .later }
def ModesValuesCardSaid : Prop := Claim7.holds Tryz.pinned (.plain (OpenSpec.ofChange modesValuesSpec)) modesValuesCard

/-- THE TIED CARD OF 'flightdecklaw49.ModesNames'. -/
def modesNamesCard : Claim7 := { stood := { row := modesNamesRow, standIns := [], harness := (true, "06cbf52145783096ea841838d4921627ed529f32b5add8ab30d636bbfb0cf2e5"), looks := false }, kinds := [], alts := [], laidByText := true, laidKinds := [.data, .pinned], laidTests := true, laidLooks := .later }
def ModesNamesCardSaid : Prop := Claim7.holds Tryz.pinned (.plain (OpenSpec.ofChange modesNamesSpec)) modesNamesCard

/-- THE TIED CARD OF 'flightdecklaw49.ModesAxes'. -/
def modesAxesCard : Claim7 := { stood := { row := modesAxesRow, standIns := [], harness := (true, "06cbf52145783096ea841838d4921627ed529f32b5add8ab30d636bbfb0cf2e5"), looks := false }, kinds := [], alts := [], laidByText := true, laidKinds := [.data, .pinned], laidTests := true, laidLooks := .later }
def ModesAxesCardSaid : Prop := Claim7.holds Tryz.pinned (.plain (OpenSpec.ofChange modesAxesSpec)) modesAxesCard

/-- THE TIED CARD OF 'flightdecklaw49.ModesSources'. -/
def modesSourcesCard : Claim7 := { stood := { row := modesSourcesRow, standIns := [], harness := (true, "06cbf52145783096ea841838d4921627ed529f32b5add8ab30d636bbfb0cf2e5"), looks := false }, kinds := [], alts := [], laidByText := true, laidKinds := [.data, .pinned], laidTests := true, laidLooks := .later }
def ModesSourcesCardSaid : Prop := Claim7.holds Tryz.pinned (.plain (OpenSpec.ofChange modesSourcesSpec)) modesSourcesCard

/-- THE TIED CARD OF 'flightdecklaw49.ModesFindings'. -/
def modesFindingsCard : Claim7 := { stood := { row := modesFindingsRow, standIns := [], harness := (true, "06cbf52145783096ea841838d4921627ed529f32b5add8ab30d636bbfb0cf2e5"), looks := false }, kinds := [], alts := [], laidByText := true, laidKinds := [.data, .pinned], laidTests := true, laidLooks := .later }
def ModesFindingsCardSaid : Prop := Claim7.holds Tryz.pinned (.plain (OpenSpec.ofChange modesFindingsSpec)) modesFindingsCard

/-- THE SECOND FORM's CARD OF 'flightdecklaw49.ModesSteps'. -/
def modesStepsUptoCard : Claim7 := { stood := { row := modesStepsUptoRow, standIns := [], harness := (true, "06cbf52145783096ea841838d4921627ed529f32b5add8ab30d636bbfb0cf2e5"), looks := false }, kinds := [], alts := [], laidByText := true, laidKinds := [.data, .pinned], laidTests := true, laidLooks := .later }
def ModesStepsUptoCardSaid : Prop := Claim7.holds Tryz.pinned (.plain (OpenSpec.upto modesStepsSpec)) modesStepsUptoCard

/-- THE SECOND FORM's CARD OF 'flightdecktop.TopModes'. -/
def topModesUptoCard : Claim7 := { stood := { row := topModesUptoRow, standIns := [], harness := (true, "06cbf52145783096ea841838d4921627ed529f32b5add8ab30d636bbfb0cf2e5"), looks := false }, kinds := [], alts := [], laidByText := true, laidKinds := [.data, .pinned], laidTests := true, laidLooks := .later }
def TopModesUptoCardSaid : Prop := Claim7.holds Tryz.pinned (.plain (OpenSpec.upto topModesSpec)) topModesUptoCard

/-- THE SECOND FORM's CARD OF 'flightdecklaw49.ModesValues'. -/
def modesValuesUptoCard : Claim7 := { stood := { row := modesValuesUptoRow, standIns := [], harness := (true, "06cbf52145783096ea841838d4921627ed529f32b5add8ab30d636bbfb0cf2e5"), looks := false }, kinds := [], alts := [], laidByText := true, laidKinds := [.data, .pinned], laidTests := true, laidLooks := .later }
def ModesValuesUptoCardSaid : Prop := Claim7.holds Tryz.pinned (.plain (OpenSpec.upto modesValuesSpec)) modesValuesUptoCard

/-- THE SECOND FORM's CARD OF 'flightdecklaw49.ModesNames'. -/
def modesNamesUptoCard : Claim7 := { stood := { row := modesNamesUptoRow, standIns := [], harness := (true, "06cbf52145783096ea841838d4921627ed529f32b5add8ab30d636bbfb0cf2e5"), looks := false }, kinds := [], alts := [], laidByText := true, laidKinds := [.data, .pinned], laidTests := true, laidLooks := .later }
def ModesNamesUptoCardSaid : Prop := Claim7.holds Tryz.pinned (.plain (OpenSpec.upto modesNamesSpec)) modesNamesUptoCard

/-- THE SECOND FORM's CARD OF 'flightdecklaw49.ModesAxes'. -/
def modesAxesUptoCard : Claim7 := { stood := { row := modesAxesUptoRow, standIns := [], harness := (true, "06cbf52145783096ea841838d4921627ed529f32b5add8ab30d636bbfb0cf2e5"), looks := false }, kinds := [], alts := [], laidByText := true, laidKinds := [.data, .pinned], laidTests := true, laidLooks := .later }
def ModesAxesUptoCardSaid : Prop := Claim7.holds Tryz.pinned (.plain (OpenSpec.upto modesAxesSpec)) modesAxesUptoCard

/-- THE SECOND FORM's CARD OF 'flightdecklaw49.ModesSources'. -/
def modesSourcesUptoCard : Claim7 := { stood := { row := modesSourcesUptoRow, standIns := [], harness := (true, "06cbf52145783096ea841838d4921627ed529f32b5add8ab30d636bbfb0cf2e5"), looks := false }, kinds := [], alts := [], laidByText := true, laidKinds := [.data, .pinned], laidTests := true, laidLooks := .later }
def ModesSourcesUptoCardSaid : Prop := Claim7.holds Tryz.pinned (.plain (OpenSpec.upto modesSourcesSpec)) modesSourcesUptoCard

/-- THE SECOND FORM's CARD OF 'flightdecklaw49.ModesFindings'. -/
def modesFindingsUptoCard : Claim7 := { stood := { row := modesFindingsUptoRow, standIns := [], harness := (true, "06cbf52145783096ea841838d4921627ed529f32b5add8ab30d636bbfb0cf2e5"), looks := false }, kinds := [], alts := [], laidByText := true, laidKinds := [.data, .pinned], laidTests := true, laidLooks := .later }
def ModesFindingsUptoCardSaid : Prop := Claim7.holds Tryz.pinned (.plain (OpenSpec.upto modesFindingsSpec)) modesFindingsUptoCard
end Rows
end Go.Proofs.YtlpdcjbkbcmahaaGreatDoor

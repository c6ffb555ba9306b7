/-
  DERIVED. GIVEN WITH THE SEED: THE CARDS: each row of YtpdncdnjkjpigaaGreatDoorRows.lean that lists a variable, with what it lists TIED to the program's text (the seventh form; the later family's looks); each row that meets fmt, with fmt's text TOLD by the authors' own Lean function (tested against real Go, not proved from fmt's source: count such statements apart). THE CARD IS WHAT COUNTS. Prove the row's statement (the work); the ties are given (YtpdncdnjkjpigaaGreatDoorTie.lean); close each card by the builder's one call (the guide's Derived/Test/ToyasCard.lean, 'card_holds'). Laid BY PROGRAM, IN A SANDBOX (cutbox-door.mjs). By AI agents, Wed Nov 11 2026. No macro, syntax, notation, axiom, sorry.
-/
import Derived.Test.YtpdncdnjkjpigaaGreatDoorRows
import GoSem.ClaimSeven
namespace Go.Proofs.YtpdncdnjkjpigaaGreatDoor
namespace Rows

/-- THE TIED CARD OF 'flightdecklaw47.ChartChecks'. -/
def chartChecksCard : Claim7 := { stood := { row := chartChecksRow, standIns := [], harness := (true, "a84d4729906e2c15fd556943e6cbd6d10603d20320a6118700ff93e819717f99"), looks := false }, kinds := [], alts := [], laidByText := true, laidKinds := [.data, .pinned], laidTests := true, laidLooks := .later }
def ChartChecksCardSaid : Prop := Claim7.holds Tryz.pinned (.plain (OpenSpec.ofChange chartChecksSpec)) chartChecksCard

/-- THE TIED CARD OF 'flightdecklaw47.ChartEnables'. -/
def chartEnablesCard : Claim7 := { stood := { row := chartEnablesRow, standIns := [], harness := (true, "a84d4729906e2c15fd556943e6cbd6d10603d20320a6118700ff93e819717f99"), looks := false }, kinds := [], alts := [], laidByText := true, laidKinds := [.data, .pinned], laidTests := true, laidLooks := .later }
def ChartEnablesCardSaid : Prop := Claim7.holds Tryz.pinned (.plain (OpenSpec.ofChange chartEnablesSpec)) chartEnablesCard

/-- THE TIED CARD OF 'flightdecklaw47.ChartStarts'. -/
def chartStartsCard : Claim7 := { stood := { row := chartStartsRow, standIns := [], harness := (true, "a84d4729906e2c15fd556943e6cbd6d10603d20320a6118700ff93e819717f99"), looks := false }, kinds := [], alts := [], laidByText := true, laidKinds := [.data, .pinned], laidTests := true, laidLooks := .later }
def ChartStartsCardSaid : Prop := Claim7.holds Tryz.pinned (.plain (OpenSpec.ofChange chartStartsSpec)) chartStartsCard

/-- THE TIED CARD OF 'flightdecklaw47.ChartFires'. -/
def chartFiresCard : Claim7 := { stood := { row := chartFiresRow, standIns := [], harness := (true, "a84d4729906e2c15fd556943e6cbd6d10603d20320a6118700ff93e819717f99"), looks := false }, kinds := [], alts := [], laidByText := true, laidKinds := [.data, .pinned], laidTests := true, laidLooks := .later }
def ChartFiresCardSaid : Prop := Claim7.holds Tryz.pinned (.plain (OpenSpec.ofChange chartFiresSpec)) chartFiresCard

/-- THE TIED CARD OF 'flightdecklaw47.ChartSteps'. -/
def chartStepsCard : Claim7 := { stood := { row := chartStepsRow, standIns := [], harness := (true, "a84d4729906e2c15fd556943e6cbd6d10603d20320a6118700ff93e819717f99"), looks := false }, kinds := [], alts := [], laidByText := true, laidKinds := [.data, .pinned], laidTests := true, laidLooks := .later }
def ChartStepsCardSaid : Prop := Claim7.holds Tryz.pinned (.plain (OpenSpec.ofChange chartStepsSpec)) chartStepsCard

/-- THE TIED CARD OF 'flightdecklaw47.ChartRuns'. -/
def chartRunsCard : Claim7 := { stood := { row := chartRunsRow, standIns := [], harness := (true, "a84d4729906e2c15fd556943e6cbd6d10603d20320a6118700ff93e819717f99"), looks := false }, kinds := [], alts := [], laidByText := true, laidKinds := [.data, .pinned], laidTests := true, laidLooks := .later }
def ChartRunsCardSaid : Prop := Claim7.holds Tryz.pinned (.plain (OpenSpec.ofChange chartRunsSpec)) chartRunsCard

/-- THE TIED CARD OF 'flightdecklaw47.ChartDivides'. -/
def chartDividesCard : Claim7 := { stood := { row := chartDividesRow, standIns := [], harness := (true, "a84d4729906e2c15fd556943e6cbd6d10603d20320a6118700ff93e819717f99"), looks := false }, kinds := [], alts := [], laidByText := true, laidKinds := [.data, .pinned], laidTests := true, laidLooks := .later }
def ChartDividesCardSaid : Prop := Claim7.holds Tryz.pinned (.plain (OpenSpec.ofChange chartDividesSpec)) chartDividesCard

/-- THE TIED CARD OF 'flightdecklaw47.ChartTexts'. -/
def chartTextsCard : Claim7 := { stood := { row := chartTextsRow, standIns := [], harness := (true, "a84d4729906e2c15fd556943e6cbd6d10603d20320a6118700ff93e819717f99"), looks := false }, kinds := [], alts := [], laidByText := true, laidKinds := [.data, .pinned], laidTests := true, laidLooks := .later }
def ChartTextsCardSaid : Prop := Claim7.holds Tryz.pinned (.plain (OpenSpec.ofChange chartTextsSpec)) chartTextsCard

/-- THE TIED CARD OF 'flightdecklaw47.ChartKeeps'. -/
def chartKeepsCard : Claim7 := { stood := { row := chartKeepsRow, standIns := [], harness := (true, "a84d4729906e2c15fd556943e6cbd6d10603d20320a6118700ff93e819717f99"), looks := false }, kinds := [], alts := [], laidByText := true, laidKinds := [.data, .pinned], laidTests := true, laidLooks := .later }
def ChartKeepsCardSaid : Prop := Claim7.holds Tryz.pinned (.plain (OpenSpec.ofChange chartKeepsSpec)) chartKeepsCard

/-- THE TIED CARD OF 'flightdecklaw47.ChartPaths'. -/
def chartPathsCard : Claim7 := { stood := { row := chartPathsRow, standIns := [], harness := (true, "a84d4729906e2c15fd556943e6cbd6d10603d20320a6118700ff93e819717f99"), looks := false }, kinds := [], alts := [], laidByText := true, laidKinds := [.data, .pinned], laidTests := true, laidLooks := .later }
def ChartPathsCardSaid : Prop := Claim7.holds Tryz.pinned (.plain (OpenSpec.ofChange chartPathsSpec)) chartPathsCard

/-- THE SECOND FORM's CARD OF 'flightdecklaw47.ChartChecks'. -/
def chartChecksUptoCard : Claim7 := { stood := { row := chartChecksUptoRow, standIns := [], harness := (true, "a84d4729906e2c15fd556943e6cbd6d10603d20320a6118700ff93e819717f99"), looks := false }, kinds := [], alts := [], laidByText := true, laidKinds := [.data, .pinned], laidTests := true, laidLooks := .later }
def ChartChecksUptoCardSaid : Prop := Claim7.holds Tryz.pinned (.plain (OpenSpec.upto chartChecksSpec)) chartChecksUptoCard

/-- THE SECOND FORM's CARD OF 'flightdecklaw47.ChartEnables'. -/
def chartEnablesUptoCard : Claim7 := { stood := { row := chartEnablesUptoRow, standIns := [], harness := (true, "a84d4729906e2c15fd556943e6cbd6d10603d20320a6118700ff93e819717f99"), looks := false }, kinds := [], alts := [], laidByText := true, laidKinds := [.data, .pinned], laidTests := true, laidLooks := .later }
def ChartEnablesUptoCardSaid : Prop := Claim7.holds Tryz.pinned (.plain (OpenSpec.upto chartEnablesSpec)) chartEnablesUptoCard

/-- THE SECOND FORM's CARD OF 'flightdecklaw47.ChartStarts'. -/
def chartStartsUptoCard : Claim7 := { stood := { row := chartStartsUptoRow, standIns := [], harness := (true, "a84d4729906e2c15fd556943e6cbd6d10603d20320a6118700ff93e819717f99"), looks := false }, kinds := [], alts := [], laidByText := true, laidKinds := [.data, .pinned], laidTests := true, laidLooks := .later }
def ChartStartsUptoCardSaid : Prop := Claim7.holds Tryz.pinned (.plain (OpenSpec.upto chartStartsSpec)) chartStartsUptoCard

/-- THE SECOND FORM's CARD OF 'flightdecklaw47.ChartFires'. -/
def chartFiresUptoCard : Claim7 := { stood := { row := chartFiresUptoRow, standIns := [], harness := (true, "a84d4729906e2c15fd556943e6cbd6d10603d20320a6118700ff93e819717f99"), looks := false }, kinds := [], alts := [], laidByText := true, laidKinds := [.data, .pinned], laidTests := true, laidLooks := .later }
def ChartFiresUptoCardSaid : Prop := Claim7.holds Tryz.pinned (.plain (OpenSpec.upto chartFiresSpec)) chartFiresUptoCard

/-- THE SECOND FORM's CARD OF 'flightdecklaw47.ChartSteps'. -/
def chartStepsUptoCard : Claim7 := { stood := { row := chartStepsUptoRow, standIns := [], harness := (true, "a84d4729906e2c15fd556943e6cbd6d10603d20320a6118700ff93e819717f99"), looks := false }, kinds := [], alts := [], laidByText := true, laidKinds := [.data, .pinned], laidTests := true, laidLooks := .later }
def ChartStepsUptoCardSaid : Prop := Claim7.holds Tryz.pinned (.plain (OpenSpec.upto chartStepsSpec)) chartStepsUptoCard

/-- THE SECOND FORM's CARD OF 'flightdecklaw47.ChartRuns'. -/
def chartRunsUptoCard : Claim7 := { stood := { row := chartRunsUptoRow, standIns := [], harness := (true, "a84d4729906e2c15fd556943e6cbd6d10603d20320a6118700ff93e819717f99"), looks := false }, kinds := [], alts := [], laidByText := true, laidKinds := [.data, .pinned], laidTests := true, laidLooks := .later }
def ChartRunsUptoCardSaid : Prop := Claim7.holds Tryz.pinned (.plain (OpenSpec.upto chartRunsSpec)) chartRunsUptoCard

/-- THE SECOND FORM's CARD OF 'flightdecklaw47.ChartDivides'. -/
def chartDividesUptoCard : Claim7 := { stood := { row := chartDividesUptoRow, standIns := [], harness := (true, "a84d4729906e2c15fd556943e6cbd6d10603d20320a6118700ff93e819717f99"), looks := false }, kinds := [], alts := [], laidByText := true, laidKinds := [.data, .pinned], laidTests := true, laidLooks := .later }
def ChartDividesUptoCardSaid : Prop := Claim7.holds Tryz.pinned (.plain (OpenSpec.upto chartDividesSpec)) chartDividesUptoCard

/-- THE SECOND FORM's CARD OF 'flightdecklaw47.ChartTexts'. -/
def chartTextsUptoCard : Claim7 := { stood := { row := chartTextsUptoRow, standIns := [], harness := (true, "a84d4729906e2c15fd556943e6cbd6d10603d20320a6118700ff93e819717f99"), looks := false }, kinds := [], alts := [], laidByText := true, laidKinds := [.data, .pinned], laidTests := true, laidLooks := .later }
def ChartTextsUptoCardSaid : Prop := Claim7.holds Tryz.pinned (.plain (OpenSpec.upto chartTextsSpec)) chartTextsUptoCard

/-- THE SECOND FORM's CARD OF 'flightdecklaw47.ChartKeeps'. -/
def chartKeepsUptoCard : Claim7 := { stood := { row := chartKeepsUptoRow, standIns := [], harness := (true, "a84d4729906e2c15fd556943e6cbd6d10603d20320a6118700ff93e819717f99"), looks := false }, kinds := [], alts := [], laidByText := true, laidKinds := [.data, .pinned], laidTests := true, laidLooks := .later }
def ChartKeepsUptoCardSaid : Prop := Claim7.holds Tryz.pinned (.plain (OpenSpec.upto chartKeepsSpec)) chartKeepsUptoCard

/-- THE SECOND FORM's CARD OF 'flightdecklaw47.ChartPaths'. -/
def chartPathsUptoCard : Claim7 := { stood := { row := chartPathsUptoRow, standIns := [], harness := (true, "a84d4729906e2c15fd556943e6cbd6d10603d20320a6118700ff93e819717f99"), looks := false }, kinds := [], alts := [], laidByText := true, laidKinds := [.data, .pinned], laidTests := true, laidLooks := .later }
def ChartPathsUptoCardSaid : Prop := Claim7.holds Tryz.pinned (.plain (OpenSpec.upto chartPathsSpec)) chartPathsUptoCard
end Rows
end Go.Proofs.YtpdncdnjkjpigaaGreatDoor

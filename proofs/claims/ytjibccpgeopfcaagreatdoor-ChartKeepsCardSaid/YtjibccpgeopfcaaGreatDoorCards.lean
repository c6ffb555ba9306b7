/-
  DERIVED. GIVEN WITH THE SEED: THE CARDS: each row of YtjibccpgeopfcaaGreatDoorRows.lean that lists a variable, with what it lists TIED to the program's text (the seventh form; the later family's looks); each row that meets fmt, with fmt's text TOLD by the authors' own Lean function (tested against real Go, not proved from fmt's source: count such statements apart). THE CARD IS WHAT COUNTS. Prove the row's statement (the work); the ties are given (YtjibccpgeopfcaaGreatDoorTie.lean); close each card by the builder's one call (the guide's Derived/Test/ToyasCard.lean, 'card_holds'). Laid BY PROGRAM, IN A SANDBOX (cutbox-door.mjs). By AI agents, Wed Nov 11 2026. No macro, syntax, notation, axiom, sorry.
-/
import Derived.Test.YtjibccpgeopfcaaGreatDoorRows
import GoSem.ClaimSeven
namespace Go.Proofs.YtjibccpgeopfcaaGreatDoor
namespace Rows

/-- THE TIED CARD OF 'flightdecklaw47.ChartTexts'. -/
def chartTextsCard : Claim7 := { stood := { row := chartTextsRow, standIns := [], harness := (true, "39b11d153ecdf30d5661737ec25e8b467de6d8e58bc8f3ca6e601543f4dd9b48"), looks := false }, kinds := [], alts := [], laidByText := true, laidKinds := [.data, .pinned], laidTests := true, laidLooks := .later }
def ChartTextsCardSaid : Prop := Claim7.holds Tryz.pinned (.plain (OpenSpec.ofChange chartTextsSpec)) chartTextsCard

/-- THE TIED CARD OF 'flightdecklaw47.ChartKeeps'. -/
def chartKeepsCard : Claim7 := { stood := { row := chartKeepsRow, standIns := [], harness := (true, "39b11d153ecdf30d5661737ec25e8b467de6d8e58bc8f3ca6e601543f4dd9b48"), looks := false }, kinds := [], alts := [], laidByText := true, laidKinds := [.data, .pinned], laidTests := true, laidLooks := .later }
def ChartKeepsCardSaid : Prop := Claim7.holds Tryz.pinned (.plain (OpenSpec.ofChange chartKeepsSpec)) chartKeepsCard

/-- THE SECOND FORM's CARD OF 'flightdecklaw47.ChartTexts'. -/
def chartTextsUptoCard : Claim7 := { stood := { row := chartTextsUptoRow, standIns := [], harness := (true, "39b11d153ecdf30d5661737ec25e8b467de6d8e58bc8f3ca6e601543f4dd9b48"), looks := false }, kinds := [], alts := [], laidByText := true, laidKinds := [.data, .pinned], laidTests := true, laidLooks := .later }
def ChartTextsUptoCardSaid : Prop := Claim7.holds Tryz.pinned (.plain (OpenSpec.upto chartTextsSpec)) chartTextsUptoCard

/-- THE SECOND FORM's CARD OF 'flightdecklaw47.ChartKeeps'. -/
def chartKeepsUptoCard : Claim7 := { stood := { row := chartKeepsUptoRow, standIns := [], harness := (true, "39b11d153ecdf30d5661737ec25e8b467de6d8e58bc8f3ca6e601543f4dd9b48"), looks := false }, kinds := [], alts := [], laidByText := true, laidKinds := [.data, .pinned], laidTests := true, laidLooks := .later }
def ChartKeepsUptoCardSaid : Prop := Claim7.holds Tryz.pinned (.plain (OpenSpec.upto chartKeepsSpec)) chartKeepsUptoCard
end Rows
end Go.Proofs.YtjibccpgeopfcaaGreatDoor

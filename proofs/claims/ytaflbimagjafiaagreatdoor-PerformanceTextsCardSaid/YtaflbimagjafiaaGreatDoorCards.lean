/-
  DERIVED. GIVEN WITH THE SEED: THE CARDS: each row of YtaflbimagjafiaaGreatDoorRows.lean that lists a variable, with what it lists TIED to the program's text (the seventh form; the later family's looks); each row that meets fmt, with fmt's text TOLD by the authors' own Lean function (tested against real Go, not proved from fmt's source: count such statements apart). THE CARD IS WHAT COUNTS. Prove the row's statement (the work); the ties are given (YtaflbimagjafiaaGreatDoorTie.lean); close each card by the builder's one call (the guide's Derived/Test/ToyasCard.lean, 'card_holds'). Laid BY PROGRAM, IN A SANDBOX (cutbox-door.mjs). By AI agents, Wed Nov 11 2026. No macro, syntax, notation, axiom, sorry.
-/
import Derived.Test.YtaflbimagjafiaaGreatDoorRows
import GoSem.ClaimSeven
namespace Go.Proofs.YtaflbimagjafiaaGreatDoor
namespace Rows

/-- THE TIED CARD OF 'flightdecklaw36.WindgridTexts'. -/
def windgridTextsCard : Claim7 := { stood := { row := windgridTextsRow, standIns := [], harness := (true, "0cc06446656780a6f8613f8dda52c17d068dc56bf798c59050e30a871a07771c"), looks := true }, kinds := [], alts := [], laidByText := true, laidKinds := [.data, .data, .data, .data, .sentinel, .sentinel, .pinned], laidTests := true, laidLooks := .later }
def WindgridTextsCardSaid : Prop := Claim7.holds Tryz.pinned (.plain (OpenSpec.ofChange windgridTextsSpec)) windgridTextsCard

/-- THE TIED CARD OF 'flightdecklaw31.PerformanceTexts'. -/
def performanceTextsCard : Claim7 := { stood := { row := performanceTextsRow, standIns := [], harness := (true, "0cc06446656780a6f8613f8dda52c17d068dc56bf798c59050e30a871a07771c"), looks := true }, kinds := [], alts := [], laidByText := true, laidKinds := [.data, .data, .data, .data, .sentinel, .sentinel, .pinned], laidTests := true, laidLooks := .later }
def PerformanceTextsCardSaid : Prop := Claim7.holds Tryz.pinned (.plain (OpenSpec.ofChange performanceTextsSpec)) performanceTextsCard

/-- THE SECOND FORM's CARD OF 'flightdecklaw36.WindgridTexts'. -/
def windgridTextsUptoCard : Claim7 := { stood := { row := windgridTextsUptoRow, standIns := [], harness := (true, "0cc06446656780a6f8613f8dda52c17d068dc56bf798c59050e30a871a07771c"), looks := true }, kinds := [], alts := [], laidByText := true, laidKinds := [.data, .data, .data, .data, .sentinel, .sentinel, .pinned], laidTests := true, laidLooks := .later }
def WindgridTextsUptoCardSaid : Prop := Claim7.holds Tryz.pinned (.plain (OpenSpec.upto windgridTextsSpec)) windgridTextsUptoCard

/-- THE SECOND FORM's CARD OF 'flightdecklaw31.PerformanceTexts'. -/
def performanceTextsUptoCard : Claim7 := { stood := { row := performanceTextsUptoRow, standIns := [], harness := (true, "0cc06446656780a6f8613f8dda52c17d068dc56bf798c59050e30a871a07771c"), looks := true }, kinds := [], alts := [], laidByText := true, laidKinds := [.data, .data, .data, .data, .sentinel, .sentinel, .pinned], laidTests := true, laidLooks := .later }
def PerformanceTextsUptoCardSaid : Prop := Claim7.holds Tryz.pinned (.plain (OpenSpec.upto performanceTextsSpec)) performanceTextsUptoCard
end Rows
end Go.Proofs.YtaflbimagjafiaaGreatDoor

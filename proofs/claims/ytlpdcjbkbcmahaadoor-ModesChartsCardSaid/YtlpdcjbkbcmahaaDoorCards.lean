/-
  DERIVED. GIVEN WITH THE SEED: THE CARDS: each row of YtlpdcjbkbcmahaaDoorRows.lean that lists a variable, with what it lists TIED to the program's text (the seventh form; the later family's looks); each row that meets fmt, with fmt's text TOLD by the authors' own Lean function (tested against real Go, not proved from fmt's source: count such statements apart). THE CARD IS WHAT COUNTS. Prove the row's statement (the work); the ties are given (YtlpdcjbkbcmahaaDoorTie.lean); close each card by the builder's one call (the guide's Derived/Test/ToyasCard.lean, 'card_holds'). Laid BY PROGRAM, IN A SANDBOX (cutbox-door.mjs). By AI agents, Wed Nov 11 2026. No macro, syntax, notation, axiom, sorry.
-/
import Derived.Test.YtlpdcjbkbcmahaaDoorRows
import GoSem.ClaimSeven
namespace Go.Proofs.YtlpdcjbkbcmahaaDoor
namespace Rows

/-- THE TIED CARD OF 'flightdecklaw49.ModesAlways'. -/
def modesAlwaysCard : Claim7 := { stood := { row := modesAlwaysRow, standIns := [], harness := (true, "38fc113be960a6476115e655d4c9afc491cc631c9a3a744e64fa18f676b5a079"), looks := false }, kinds := [], alts := [], laidByText := true, laidKinds := [.data, .pinned], laidTests := true, laidLooks := .later }
def ModesAlwaysCardSaid : Prop := Claim7.holds Tryd.pinned (.plain (OpenSpec.ofChange modesAlwaysSpec)) modesAlwaysCard

/-- THE TIED CARD OF 'flightdecklaw49.ModesGround'. -/
def modesGroundCard : Claim7 := { stood := { row := modesGroundRow, standIns := [], harness := (true, "38fc113be960a6476115e655d4c9afc491cc631c9a3a744e64fa18f676b5a079"), looks := false }, kinds := [], alts := [], laidByText := true, laidKinds := [.data, .pinned], laidTests := true, laidLooks := .later }
def ModesGroundCardSaid : Prop := Claim7.holds Tryd.pinned (.plain (OpenSpec.ofChange modesGroundSpec)) modesGroundCard

/-- THE TIED CARD OF 'flightdecklaw49.ModesReverts'. -/
def modesRevertsCard : Claim7 := { stood := { row := modesRevertsRow, standIns := [], harness := (true, "38fc113be960a6476115e655d4c9afc491cc631c9a3a744e64fa18f676b5a079"), looks := false }, kinds := [], alts := [], laidByText := true, laidKinds := [.data, .pinned], laidTests := true, laidLooks := .later }
def ModesRevertsCardSaid : Prop := Claim7.holds Tryd.pinned (.plain (OpenSpec.ofChange modesRevertsSpec)) modesRevertsCard

/-- THE TIED CARD OF 'flightdecklaw49.ModesCharts'. -/
def modesChartsCard : Claim7 := { stood := { row := modesChartsRow, standIns := [], harness := (true, "38fc113be960a6476115e655d4c9afc491cc631c9a3a744e64fa18f676b5a079"), looks := false }, kinds := [], alts := [], laidByText := true, laidKinds := [.data, .pinned], laidTests := true, laidLooks := .later }
def ModesChartsCardSaid : Prop := Claim7.holds Tryd.pinned (.plain (OpenSpec.ofChange modesChartsSpec)) modesChartsCard

/-- THE SECOND FORM's CARD OF 'flightdecklaw49.ModesAlways'. -/
def modesAlwaysUptoCard : Claim7 := { stood := { row := modesAlwaysUptoRow, standIns := [], harness := (true, "38fc113be960a6476115e655d4c9afc491cc631c9a3a744e64fa18f676b5a079"), looks := false }, kinds := [], alts := [], laidByText := true, laidKinds := [.data, .pinned], laidTests := true, laidLooks := .later }
def ModesAlwaysUptoCardSaid : Prop := Claim7.holds Tryd.pinned (.plain (OpenSpec.upto modesAlwaysSpec)) modesAlwaysUptoCard

/-- THE SECOND FORM's CARD OF 'flightdecklaw49.ModesGround'. -/
def modesGroundUptoCard : Claim7 := { stood := { row := modesGroundUptoRow, standIns := [], harness := (true, "38fc113be960a6476115e655d4c9afc491cc631c9a3a744e64fa18f676b5a079"), looks := false }, kinds := [], alts := [], laidByText := true, laidKinds := [.data, .pinned], laidTests := true, laidLooks := .later }
def ModesGroundUptoCardSaid : Prop := Claim7.holds Tryd.pinned (.plain (OpenSpec.upto modesGroundSpec)) modesGroundUptoCard

/-- THE SECOND FORM's CARD OF 'flightdecklaw49.ModesReverts'. -/
def modesRevertsUptoCard : Claim7 := { stood := { row := modesRevertsUptoRow, standIns := [], harness := (true, "38fc113be960a6476115e655d4c9afc491cc631c9a3a744e64fa18f676b5a079"), looks := false }, kinds := [], alts := [], laidByText := true, laidKinds := [.data, .pinned], laidTests := true, laidLooks := .later }
def ModesRevertsUptoCardSaid : Prop := Claim7.holds Tryd.pinned (.plain (OpenSpec.upto modesRevertsSpec)) modesRevertsUptoCard

/-- THE SECOND FORM's CARD OF 'flightdecklaw49.ModesCharts'. -/
def modesChartsUptoCard : Claim7 := { stood := { row := modesChartsUptoRow, standIns := [], harness := (true, "38fc113be960a6476115e655d4c9afc491cc631c9a3a744e64fa18f676b5a079"), looks := false }, kinds := [], alts := [], laidByText := true, laidKinds := [.data, .pinned], laidTests := true, laidLooks := .later }
def ModesChartsUptoCardSaid : Prop := Claim7.holds Tryd.pinned (.plain (OpenSpec.upto modesChartsSpec)) modesChartsUptoCard
end Rows
end Go.Proofs.YtlpdcjbkbcmahaaDoor

/-
  NARROWER THAN 'FOR EVERY INPUT', by the rows' own cells (each row's printed sentence says how): ChartTexts: laid · ChartKeeps: laid · ModesAxes: laid · ModesSources: laid · ModesFindings: laid.
  DERIVED. THE GIVEN ROWS OF THIS SEAT. 5 by the template 'for every input the law returns true; each argument reads behind the call as it read before'; 0 by the template 'total and deterministic' (their statements: YtmjgpbohlbakiaaGreatDoorTotals.lean).
  GIVEN WITH THE SEED: the statements are not yours to turn. If you find one false, say at which input.
  Laid BY PROGRAM, IN A SANDBOX (cutbox-rows.mjs): the forced cells as the released guide's own fill.sh prints them over the translation dbc68c2739171e83… (all of the seat's roots in one cut). By AI agents, Wed Nov 11 2026. No macro, syntax, notation, axiom, sorry.
-/
import Derived.Test.YtmjgpbohlbakiaaGreatDoorChecked
import GoSem.PinnedTables
import GoSem.Claim
import GoSem.ClaimJoined
import GoSem.ClaimMapViews
import Derived.JoinedTies
import Derived.KernelRfl
namespace Go.Proofs.YtmjgpbohlbakiaaGreatDoor
/- THE CELL 'sum', in the pinned program and in every row, IS THE sha256 OF THE DUMP (.gsa) THAT YtmjgpbohlbakiaaGreatDoorProg.lean LOADS. Nothing in Lean hashes anything: it is a label: what it is worth is what the hold of that sum in a sandbox is worth. -/
noncomputable def Tryz.pinned : Pinned := { name := "ytmjgpbohlbakiaagreatdoor", sum := "dbc68c2739171e832b226a064e92b5d880e6c5be36c316378c05c80bce56dff6", checked := Tryz.checked }
namespace Rows
def none {H : Type} : Left H := { results := [], args := [] }

/- WHAT THE LISTED PACKAGE-LEVEL VARIABLES READ AS WHEN THE CALL BEGINS. Each datum BY PROGRAM (the guide's laid-datum.mjs) off the statement by which the dump's own 'gosem.cut.vars' lays the variable. In a bare row this is a premise. The card (YtmjgpbohlbakiaaGreatDoorCards.lean) ties it to the program's text. -/
def laid_unicode_utf8_acceptRanges {H : Type} : DataW H := .agg [.agg [.lit (.int .u8 128), .lit (.int .u8 191)], .agg [.lit (.int .u8 160), .lit (.int .u8 191)], .agg [.lit (.int .u8 128), .lit (.int .u8 159)], .agg [.lit (.int .u8 144), .lit (.int .u8 191)], .agg [.lit (.int .u8 128), .lit (.int .u8 143)], .agg [.lit (.int .u8 0), .lit (.int .u8 0)], .agg [.lit (.int .u8 0), .lit (.int .u8 0)], .agg [.lit (.int .u8 0), .lit (.int .u8 0)], .agg [.lit (.int .u8 0), .lit (.int .u8 0)], .agg [.lit (.int .u8 0), .lit (.int .u8 0)], .agg [.lit (.int .u8 0), .lit (.int .u8 0)], .agg [.lit (.int .u8 0), .lit (.int .u8 0)], .agg [.lit (.int .u8 0), .lit (.int .u8 0)], .agg [.lit (.int .u8 0), .lit (.int .u8 0)], .agg [.lit (.int .u8 0), .lit (.int .u8 0)], .agg [.lit (.int .u8 0), .lit (.int .u8 0)]]
/-- One of Go's own tables, pinned by name: the form's constant. -/
def laid_unicode_utf8_first : DataW Unit := Go.Pinned.utf8First

/-- 'flightdecklaw47.ChartTexts': WHATEVER THE INPUT: true; the input reads as it did. -/
def chartTextsSpec : ChangeSpec := { name := "chartTexts", fn := fun _ => fun
  | [d] => { results := [.lit (.bool true)], args := [d] }
  | _ => none }
def chartTextsRow : OpenClaim := { program := "ytmjgpbohlbakiaagreatdoor", sum := "dbc68c2739171e832b226a064e92b5d880e6c5be36c316378c05c80bce56dff6", func := "flightdeck/flightdecklaw47.ChartTexts", spec := "chartTexts", inPlace := ["internal/bytealg.CountString", "internal/bytealg.IndexByteString", "internal/bytealg.IndexString", "internal/abi.NoEscape"], unfollowed := true, recurses := true, named := ["unicode/utf8.first", "unicode/utf8.acceptRanges", "internal/bytealg.MaxLen"], apart := false, laid := [("unicode/utf8.acceptRanges", laid_unicode_utf8_acceptRanges), ("unicode/utf8.first", laid_unicode_utf8_first)] }
def ChartTextsSaid : Prop := chartTextsRow.holds Tryz.pinned (OpenSpec.ofChange chartTextsSpec)

/-- ITS FALSE NEIGHBOUR: 'it returns false'. Refute it at one input. -/
def chartTextsWrong : ChangeSpec := { name := "chartTexts", fn := fun _ => fun
  | [d] => { results := [.lit (.bool false)], args := [d] }
  | _ => none }
def ChartTextsWrongFalsely : Prop := chartTextsRow.holds Tryz.pinned (OpenSpec.ofChange chartTextsWrong)

/-- 'flightdecklaw47.ChartKeeps': WHATEVER THE INPUT: true; the input reads as it did. -/
def chartKeepsSpec : ChangeSpec := { name := "chartKeeps", fn := fun _ => fun
  | [d1, d2] => { results := [.lit (.bool true)], args := [d1, d2] }
  | _ => none }
def chartKeepsRow : OpenClaim := { program := "ytmjgpbohlbakiaagreatdoor", sum := "dbc68c2739171e832b226a064e92b5d880e6c5be36c316378c05c80bce56dff6", func := "flightdeck/flightdecklaw47.ChartKeeps", spec := "chartKeeps", inPlace := ["internal/bytealg.CountString", "internal/bytealg.IndexByteString", "internal/bytealg.IndexString", "internal/abi.NoEscape"], unfollowed := true, recurses := true, named := ["unicode/utf8.first", "unicode/utf8.acceptRanges", "internal/bytealg.MaxLen"], apart := false, laid := [("unicode/utf8.acceptRanges", laid_unicode_utf8_acceptRanges), ("unicode/utf8.first", laid_unicode_utf8_first)] }
def ChartKeepsSaid : Prop := chartKeepsRow.holds Tryz.pinned (OpenSpec.ofChange chartKeepsSpec)

/-- ITS FALSE NEIGHBOUR: 'it returns false'. Refute it at one input. -/
def chartKeepsWrong : ChangeSpec := { name := "chartKeeps", fn := fun _ => fun
  | [d1, d2] => { results := [.lit (.bool false)], args := [d1, d2] }
  | _ => none }
def ChartKeepsWrongFalsely : Prop := chartKeepsRow.holds Tryz.pinned (OpenSpec.ofChange chartKeepsWrong)

/-- 'flightdecklaw49.ModesAxes': WHATEVER THE INPUT: true; the input reads as it did. -/
def modesAxesSpec : ChangeSpec := { name := "modesAxes", fn := fun _ => fun
  | [d1, d2] => { results := [.lit (.bool true)], args := [d1, d2] }
  | _ => none }
def modesAxesRow : OpenClaim := { program := "ytmjgpbohlbakiaagreatdoor", sum := "dbc68c2739171e832b226a064e92b5d880e6c5be36c316378c05c80bce56dff6", func := "flightdeck/flightdecklaw49.ModesAxes", spec := "modesAxes", inPlace := ["internal/bytealg.CountString", "internal/bytealg.IndexByteString", "internal/bytealg.IndexString", "internal/abi.NoEscape", "internal/bytealg.MakeNoZero"], unfollowed := true, recurses := true, named := ["unicode/utf8.first", "unicode/utf8.acceptRanges", "internal/bytealg.MaxLen"], apart := false, laid := [("unicode/utf8.acceptRanges", laid_unicode_utf8_acceptRanges), ("unicode/utf8.first", laid_unicode_utf8_first)] }
def ModesAxesSaid : Prop := modesAxesRow.holds Tryz.pinned (OpenSpec.ofChange modesAxesSpec)

/-- ITS FALSE NEIGHBOUR: 'it returns false'. Refute it at one input. -/
def modesAxesWrong : ChangeSpec := { name := "modesAxes", fn := fun _ => fun
  | [d1, d2] => { results := [.lit (.bool false)], args := [d1, d2] }
  | _ => none }
def ModesAxesWrongFalsely : Prop := modesAxesRow.holds Tryz.pinned (OpenSpec.ofChange modesAxesWrong)

/-- 'flightdecklaw49.ModesSources': WHATEVER THE INPUT: true; the input reads as it did. -/
def modesSourcesSpec : ChangeSpec := { name := "modesSources", fn := fun _ => fun
  | [d] => { results := [.lit (.bool true)], args := [d] }
  | _ => none }
def modesSourcesRow : OpenClaim := { program := "ytmjgpbohlbakiaagreatdoor", sum := "dbc68c2739171e832b226a064e92b5d880e6c5be36c316378c05c80bce56dff6", func := "flightdeck/flightdecklaw49.ModesSources", spec := "modesSources", inPlace := ["internal/bytealg.CountString", "internal/bytealg.IndexByteString", "internal/bytealg.IndexString", "internal/abi.NoEscape"], unfollowed := true, recurses := true, named := ["unicode/utf8.first", "unicode/utf8.acceptRanges", "internal/bytealg.MaxLen"], apart := false, laid := [("unicode/utf8.acceptRanges", laid_unicode_utf8_acceptRanges), ("unicode/utf8.first", laid_unicode_utf8_first)] }
def ModesSourcesSaid : Prop := modesSourcesRow.holds Tryz.pinned (OpenSpec.ofChange modesSourcesSpec)

/-- ITS FALSE NEIGHBOUR: 'it returns false'. Refute it at one input. -/
def modesSourcesWrong : ChangeSpec := { name := "modesSources", fn := fun _ => fun
  | [d] => { results := [.lit (.bool false)], args := [d] }
  | _ => none }
def ModesSourcesWrongFalsely : Prop := modesSourcesRow.holds Tryz.pinned (OpenSpec.ofChange modesSourcesWrong)

/-- 'flightdecklaw49.ModesFindings': WHATEVER THE INPUT: true; the input reads as it did. -/
def modesFindingsSpec : ChangeSpec := { name := "modesFindings", fn := fun _ => fun
  | [d] => { results := [.lit (.bool true)], args := [d] }
  | _ => none }
def modesFindingsRow : OpenClaim := { program := "ytmjgpbohlbakiaagreatdoor", sum := "dbc68c2739171e832b226a064e92b5d880e6c5be36c316378c05c80bce56dff6", func := "flightdeck/flightdecklaw49.ModesFindings", spec := "modesFindings", inPlace := ["internal/bytealg.CountString", "internal/bytealg.IndexByteString", "internal/bytealg.IndexString"], unfollowed := true, recurses := true, named := ["unicode/utf8.first", "unicode/utf8.acceptRanges", "internal/bytealg.MaxLen"], apart := false, laid := [("unicode/utf8.acceptRanges", laid_unicode_utf8_acceptRanges), ("unicode/utf8.first", laid_unicode_utf8_first)] }
def ModesFindingsSaid : Prop := modesFindingsRow.holds Tryz.pinned (OpenSpec.ofChange modesFindingsSpec)

/-- ITS FALSE NEIGHBOUR: 'it returns false'. Refute it at one input. -/
def modesFindingsWrong : ChangeSpec := { name := "modesFindings", fn := fun _ => fun
  | [d] => { results := [.lit (.bool false)], args := [d] }
  | _ => none }
def ModesFindingsWrongFalsely : Prop := modesFindingsRow.holds Tryz.pinned (OpenSpec.ofChange modesFindingsWrong)

/- THE SECOND FORM. 'bulk': how many values and letters a reading holds, each counted each time it is reached (what is shared counts as often as it is met; a slice's spare places count too). A statement '..UptoSaid' is the law's where the arguments, and the package variables that the reading takes, are together of bulk at most 1048576: NARROWER than '..Said'. Prove '..Said' where nothing that the law and all that it calls make is longer than what came in: it says more and counts as full. Else prove '..UptoSaid'. A law counts once. -/
mutual
def uptoBulk {H : Type} : DataW H → Nat
  | .lit (.string bytes) => bytes.length + 1
  | .lit _ => 1
  | .nil => 1
  | .ptr d => uptoBulk d + 1
  | .slice elems spare => uptoBulkAll elems + uptoBulkAll spare + 1
  | .agg parts => uptoBulkAll parts + 1
  | .iface _ d => uptoBulk d + 1
  | .map entries => uptoBulkEntries entries + 1
  | .held _ => 1
def uptoBulkAll {H : Type} : List (DataW H) → Nat
  | [] => 0
  | d :: r => uptoBulk d + uptoBulkAll r
def uptoBulkEntries {H : Type} : List (Lit × DataW H) → Nat
  | [] => 0
  | x :: r => uptoBulkEntry x + uptoBulkEntries r
def uptoBulkEntry {H : Type} : Lit × DataW H → Nat
  | (.string bytes, d) => bytes.length + uptoBulk d + 1
  | (_, d) => uptoBulk d + 1
 end
def uptoSmall : (H : Type) → List (DataW H) → Bool := fun _ ds => decide (uptoBulkAll ds ≤ 1048576)
def OpenSpec.upto (s : _root_.Go.ChangeSpec) : _root_.Go.OpenSpec := { _root_.Go.OpenSpec.ofChange s with cond := some uptoSmall }

/-- 'flightdecklaw47.ChartTexts', WHERE WHAT IT READS IS OF BULK AT MOST 1048576: true; the input reads as it did. -/
def chartTextsUptoRow : OpenClaim := { program := "ytmjgpbohlbakiaagreatdoor", sum := "dbc68c2739171e832b226a064e92b5d880e6c5be36c316378c05c80bce56dff6", func := "flightdeck/flightdecklaw47.ChartTexts", spec := "chartTexts", inPlace := ["internal/bytealg.CountString", "internal/bytealg.IndexByteString", "internal/bytealg.IndexString", "internal/abi.NoEscape"], unfollowed := true, recurses := true, named := ["unicode/utf8.first", "unicode/utf8.acceptRanges", "internal/bytealg.MaxLen"], apart := false, laid := [("unicode/utf8.acceptRanges", laid_unicode_utf8_acceptRanges), ("unicode/utf8.first", laid_unicode_utf8_first)], narrowed := true }
def ChartTextsUptoSaid : Prop := chartTextsUptoRow.holds Tryz.pinned (OpenSpec.upto chartTextsSpec)

/-- 'flightdecklaw47.ChartKeeps', WHERE WHAT IT READS IS OF BULK AT MOST 1048576: true; the input reads as it did. -/
def chartKeepsUptoRow : OpenClaim := { program := "ytmjgpbohlbakiaagreatdoor", sum := "dbc68c2739171e832b226a064e92b5d880e6c5be36c316378c05c80bce56dff6", func := "flightdeck/flightdecklaw47.ChartKeeps", spec := "chartKeeps", inPlace := ["internal/bytealg.CountString", "internal/bytealg.IndexByteString", "internal/bytealg.IndexString", "internal/abi.NoEscape"], unfollowed := true, recurses := true, named := ["unicode/utf8.first", "unicode/utf8.acceptRanges", "internal/bytealg.MaxLen"], apart := false, laid := [("unicode/utf8.acceptRanges", laid_unicode_utf8_acceptRanges), ("unicode/utf8.first", laid_unicode_utf8_first)], narrowed := true }
def ChartKeepsUptoSaid : Prop := chartKeepsUptoRow.holds Tryz.pinned (OpenSpec.upto chartKeepsSpec)

/-- 'flightdecklaw49.ModesAxes', WHERE WHAT IT READS IS OF BULK AT MOST 1048576: true; the input reads as it did. -/
def modesAxesUptoRow : OpenClaim := { program := "ytmjgpbohlbakiaagreatdoor", sum := "dbc68c2739171e832b226a064e92b5d880e6c5be36c316378c05c80bce56dff6", func := "flightdeck/flightdecklaw49.ModesAxes", spec := "modesAxes", inPlace := ["internal/bytealg.CountString", "internal/bytealg.IndexByteString", "internal/bytealg.IndexString", "internal/abi.NoEscape", "internal/bytealg.MakeNoZero"], unfollowed := true, recurses := true, named := ["unicode/utf8.first", "unicode/utf8.acceptRanges", "internal/bytealg.MaxLen"], apart := false, laid := [("unicode/utf8.acceptRanges", laid_unicode_utf8_acceptRanges), ("unicode/utf8.first", laid_unicode_utf8_first)], narrowed := true }
def ModesAxesUptoSaid : Prop := modesAxesUptoRow.holds Tryz.pinned (OpenSpec.upto modesAxesSpec)

/-- 'flightdecklaw49.ModesSources', WHERE WHAT IT READS IS OF BULK AT MOST 1048576: true; the input reads as it did. -/
def modesSourcesUptoRow : OpenClaim := { program := "ytmjgpbohlbakiaagreatdoor", sum := "dbc68c2739171e832b226a064e92b5d880e6c5be36c316378c05c80bce56dff6", func := "flightdeck/flightdecklaw49.ModesSources", spec := "modesSources", inPlace := ["internal/bytealg.CountString", "internal/bytealg.IndexByteString", "internal/bytealg.IndexString", "internal/abi.NoEscape"], unfollowed := true, recurses := true, named := ["unicode/utf8.first", "unicode/utf8.acceptRanges", "internal/bytealg.MaxLen"], apart := false, laid := [("unicode/utf8.acceptRanges", laid_unicode_utf8_acceptRanges), ("unicode/utf8.first", laid_unicode_utf8_first)], narrowed := true }
def ModesSourcesUptoSaid : Prop := modesSourcesUptoRow.holds Tryz.pinned (OpenSpec.upto modesSourcesSpec)

/-- 'flightdecklaw49.ModesFindings', WHERE WHAT IT READS IS OF BULK AT MOST 1048576: true; the input reads as it did. -/
def modesFindingsUptoRow : OpenClaim := { program := "ytmjgpbohlbakiaagreatdoor", sum := "dbc68c2739171e832b226a064e92b5d880e6c5be36c316378c05c80bce56dff6", func := "flightdeck/flightdecklaw49.ModesFindings", spec := "modesFindings", inPlace := ["internal/bytealg.CountString", "internal/bytealg.IndexByteString", "internal/bytealg.IndexString"], unfollowed := true, recurses := true, named := ["unicode/utf8.first", "unicode/utf8.acceptRanges", "internal/bytealg.MaxLen"], apart := false, laid := [("unicode/utf8.acceptRanges", laid_unicode_utf8_acceptRanges), ("unicode/utf8.first", laid_unicode_utf8_first)], narrowed := true }
def ModesFindingsUptoSaid : Prop := modesFindingsUptoRow.holds Tryz.pinned (OpenSpec.upto modesFindingsSpec)

end Rows
end Go.Proofs.YtmjgpbohlbakiaaGreatDoor

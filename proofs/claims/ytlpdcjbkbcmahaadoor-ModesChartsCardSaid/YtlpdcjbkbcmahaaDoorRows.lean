/-
  NARROWER THAN 'FOR EVERY INPUT', by the rows' own cells (each row's printed sentence says how): ModesAlways: laid · ModesGround: laid · ModesReverts: laid · ModesCharts: laid.
  DERIVED. THE GIVEN ROWS OF THIS SEAT. 4 by the template 'for every input the law returns true; each argument reads behind the call as it read before'; 0 by the template 'total and deterministic' (their statements: YtlpdcjbkbcmahaaDoorTotals.lean).
  GIVEN WITH THE SEED: the statements are not yours to turn. If you find one false, say at which input.
  Laid BY PROGRAM, IN A SANDBOX (cutbox-rows.mjs): the forced cells as the released guide's own fill.sh prints them over the translation 27075ff24ce76c5e… (all of the seat's roots in one cut). By AI agents, Wed Nov 11 2026. No macro, syntax, notation, axiom, sorry.
-/
import Derived.Test.YtlpdcjbkbcmahaaDoorChecked
import GoSem.PinnedTables
import GoSem.Claim
import GoSem.ClaimJoined
import GoSem.ClaimMapViews
import Derived.JoinedTies
import Derived.KernelRfl
namespace Go.Proofs.YtlpdcjbkbcmahaaDoor
/- THE CELL 'sum', in the pinned program and in every row, IS THE sha256 OF THE DUMP (.gsa) THAT YtlpdcjbkbcmahaaDoorProg.lean LOADS. Nothing in Lean hashes anything: it is a label: what it is worth is what the hold of that sum in a sandbox is worth. -/
noncomputable def Tryd.pinned : Pinned := { name := "ytlpdcjbkbcmahaadoor", sum := "27075ff24ce76c5ef0716652a7cbb967fbb56bca974a2c1b49e5b0be3f3a2252", checked := Tryd.checked }
namespace Rows
def none {H : Type} : Left H := { results := [], args := [] }

/- WHAT THE LISTED PACKAGE-LEVEL VARIABLES READ AS WHEN THE CALL BEGINS. Each datum BY PROGRAM (the guide's laid-datum.mjs) off the statement by which the dump's own 'gosem.cut.vars' lays the variable. In a bare row this is a premise. The card (YtlpdcjbkbcmahaaDoorCards.lean) ties it to the program's text. -/
def laid_unicode_utf8_acceptRanges {H : Type} : DataW H := .agg [.agg [.lit (.int .u8 128), .lit (.int .u8 191)], .agg [.lit (.int .u8 160), .lit (.int .u8 191)], .agg [.lit (.int .u8 128), .lit (.int .u8 159)], .agg [.lit (.int .u8 144), .lit (.int .u8 191)], .agg [.lit (.int .u8 128), .lit (.int .u8 143)], .agg [.lit (.int .u8 0), .lit (.int .u8 0)], .agg [.lit (.int .u8 0), .lit (.int .u8 0)], .agg [.lit (.int .u8 0), .lit (.int .u8 0)], .agg [.lit (.int .u8 0), .lit (.int .u8 0)], .agg [.lit (.int .u8 0), .lit (.int .u8 0)], .agg [.lit (.int .u8 0), .lit (.int .u8 0)], .agg [.lit (.int .u8 0), .lit (.int .u8 0)], .agg [.lit (.int .u8 0), .lit (.int .u8 0)], .agg [.lit (.int .u8 0), .lit (.int .u8 0)], .agg [.lit (.int .u8 0), .lit (.int .u8 0)], .agg [.lit (.int .u8 0), .lit (.int .u8 0)]]
/-- One of Go's own tables, pinned by name: the form's constant. -/
def laid_unicode_utf8_first : DataW Unit := Go.Pinned.utf8First

/-- 'flightdecklaw49.ModesAlways': WHATEVER THE INPUT: true; the input reads as it did. -/
def modesAlwaysSpec : ChangeSpec := { name := "modesAlways", fn := fun _ => fun
  | [d] => { results := [.lit (.bool true)], args := [d] }
  | _ => none }
def modesAlwaysRow : OpenClaim := { program := "ytlpdcjbkbcmahaadoor", sum := "27075ff24ce76c5ef0716652a7cbb967fbb56bca974a2c1b49e5b0be3f3a2252", func := "flightdeck/flightdecklaw49.ModesAlways", spec := "modesAlways", inPlace := ["internal/bytealg.CountString", "internal/bytealg.IndexByteString", "internal/bytealg.IndexString"], unfollowed := true, recurses := true, named := ["unicode/utf8.first", "unicode/utf8.acceptRanges", "internal/bytealg.MaxLen"], apart := false, laid := [("unicode/utf8.acceptRanges", laid_unicode_utf8_acceptRanges), ("unicode/utf8.first", laid_unicode_utf8_first)] }
def ModesAlwaysSaid : Prop := modesAlwaysRow.holds Tryd.pinned (OpenSpec.ofChange modesAlwaysSpec)

/-- ITS FALSE NEIGHBOUR: 'it returns false'. Refute it at one input. -/
def modesAlwaysWrong : ChangeSpec := { name := "modesAlways", fn := fun _ => fun
  | [d] => { results := [.lit (.bool false)], args := [d] }
  | _ => none }
def ModesAlwaysWrongFalsely : Prop := modesAlwaysRow.holds Tryd.pinned (OpenSpec.ofChange modesAlwaysWrong)

/-- 'flightdecklaw49.ModesGround': WHATEVER THE INPUT: true; the input reads as it did. -/
def modesGroundSpec : ChangeSpec := { name := "modesGround", fn := fun _ => fun
  | [d1, d2] => { results := [.lit (.bool true)], args := [d1, d2] }
  | _ => none }
def modesGroundRow : OpenClaim := { program := "ytlpdcjbkbcmahaadoor", sum := "27075ff24ce76c5ef0716652a7cbb967fbb56bca974a2c1b49e5b0be3f3a2252", func := "flightdeck/flightdecklaw49.ModesGround", spec := "modesGround", inPlace := ["internal/bytealg.CountString", "internal/bytealg.IndexByteString", "internal/bytealg.IndexString"], unfollowed := true, recurses := true, named := ["unicode/utf8.first", "unicode/utf8.acceptRanges", "internal/bytealg.MaxLen"], apart := false, laid := [("unicode/utf8.acceptRanges", laid_unicode_utf8_acceptRanges), ("unicode/utf8.first", laid_unicode_utf8_first)] }
def ModesGroundSaid : Prop := modesGroundRow.holds Tryd.pinned (OpenSpec.ofChange modesGroundSpec)

/-- ITS FALSE NEIGHBOUR: 'it returns false'. Refute it at one input. -/
def modesGroundWrong : ChangeSpec := { name := "modesGround", fn := fun _ => fun
  | [d1, d2] => { results := [.lit (.bool false)], args := [d1, d2] }
  | _ => none }
def ModesGroundWrongFalsely : Prop := modesGroundRow.holds Tryd.pinned (OpenSpec.ofChange modesGroundWrong)

/-- 'flightdecklaw49.ModesReverts': WHATEVER THE INPUT: true; the input reads as it did. -/
def modesRevertsSpec : ChangeSpec := { name := "modesReverts", fn := fun _ => fun
  | [d1, d2] => { results := [.lit (.bool true)], args := [d1, d2] }
  | _ => none }
def modesRevertsRow : OpenClaim := { program := "ytlpdcjbkbcmahaadoor", sum := "27075ff24ce76c5ef0716652a7cbb967fbb56bca974a2c1b49e5b0be3f3a2252", func := "flightdeck/flightdecklaw49.ModesReverts", spec := "modesReverts", inPlace := ["internal/bytealg.CountString", "internal/bytealg.IndexByteString", "internal/bytealg.IndexString"], unfollowed := true, recurses := true, named := ["unicode/utf8.first", "unicode/utf8.acceptRanges", "internal/bytealg.MaxLen"], apart := false, laid := [("unicode/utf8.acceptRanges", laid_unicode_utf8_acceptRanges), ("unicode/utf8.first", laid_unicode_utf8_first)] }
def ModesRevertsSaid : Prop := modesRevertsRow.holds Tryd.pinned (OpenSpec.ofChange modesRevertsSpec)

/-- ITS FALSE NEIGHBOUR: 'it returns false'. Refute it at one input. -/
def modesRevertsWrong : ChangeSpec := { name := "modesReverts", fn := fun _ => fun
  | [d1, d2] => { results := [.lit (.bool false)], args := [d1, d2] }
  | _ => none }
def ModesRevertsWrongFalsely : Prop := modesRevertsRow.holds Tryd.pinned (OpenSpec.ofChange modesRevertsWrong)

/-- 'flightdecklaw49.ModesCharts': WHATEVER THE INPUT: true; the input reads as it did. -/
def modesChartsSpec : ChangeSpec := { name := "modesCharts", fn := fun _ => fun
  | [d1, d2] => { results := [.lit (.bool true)], args := [d1, d2] }
  | _ => none }
def modesChartsRow : OpenClaim := { program := "ytlpdcjbkbcmahaadoor", sum := "27075ff24ce76c5ef0716652a7cbb967fbb56bca974a2c1b49e5b0be3f3a2252", func := "flightdeck/flightdecklaw49.ModesCharts", spec := "modesCharts", inPlace := ["internal/bytealg.CountString", "internal/bytealg.IndexByteString", "internal/bytealg.IndexString"], unfollowed := true, recurses := true, named := ["unicode/utf8.first", "unicode/utf8.acceptRanges", "internal/bytealg.MaxLen"], apart := false, laid := [("unicode/utf8.acceptRanges", laid_unicode_utf8_acceptRanges), ("unicode/utf8.first", laid_unicode_utf8_first)] }
def ModesChartsSaid : Prop := modesChartsRow.holds Tryd.pinned (OpenSpec.ofChange modesChartsSpec)

/-- ITS FALSE NEIGHBOUR: 'it returns false'. Refute it at one input. -/
def modesChartsWrong : ChangeSpec := { name := "modesCharts", fn := fun _ => fun
  | [d1, d2] => { results := [.lit (.bool false)], args := [d1, d2] }
  | _ => none }
def ModesChartsWrongFalsely : Prop := modesChartsRow.holds Tryd.pinned (OpenSpec.ofChange modesChartsWrong)

/- THE SECOND FORM. 'bulk': how many values and letters a reading holds, each counted each time it is reached (what is shared counts as often as it is met; a slice's spare places count too). A statement '..UptoSaid' is the law's where the arguments, and the package variables that the reading takes, are together of bulk at most 1048576: NARROWER than '..Said'. Prove '..Said' where nothing that the law and all that it calls make is longer than what came in: it says more and counts as full. Else prove '..UptoSaid'. A law counts once. -/
mutual
def uptoBulk {H : Type} : DataW H → Nat
  | .lit (.string bytes) => bytes.length + 1
  | .lit _ => 1
  | .nil => 1
  | .ptr d => uptoBulk d + 1
  | .slice elems spare => uptoBulkAll elems + uptoBulkAll spare + 1
  | .agg parts => uptoBulkAll parts + 1
  | .iface _ d => uptoBulk d + 1
  | .map entries => uptoBulkEntries entries + 1
  | .held _ => 1
def uptoBulkAll {H : Type} : List (DataW H) → Nat
  | [] => 0
  | d :: r => uptoBulk d + uptoBulkAll r
def uptoBulkEntries {H : Type} : List (Lit × DataW H) → Nat
  | [] => 0
  | x :: r => uptoBulkEntry x + uptoBulkEntries r
def uptoBulkEntry {H : Type} : Lit × DataW H → Nat
  | (.string bytes, d) => bytes.length + uptoBulk d + 1
  | (_, d) => uptoBulk d + 1
 end
def uptoSmall : (H : Type) → List (DataW H) → Bool := fun _ ds => decide (uptoBulkAll ds ≤ 1048576)
def OpenSpec.upto (s : _root_.Go.ChangeSpec) : _root_.Go.OpenSpec := { _root_.Go.OpenSpec.ofChange s with cond := some uptoSmall }

/-- 'flightdecklaw49.ModesAlways', WHERE WHAT IT READS IS OF BULK AT MOST 1048576: true; the input reads as it did. -/
def modesAlwaysUptoRow : OpenClaim := { program := "ytlpdcjbkbcmahaadoor", sum := "27075ff24ce76c5ef0716652a7cbb967fbb56bca974a2c1b49e5b0be3f3a2252", func := "flightdeck/flightdecklaw49.ModesAlways", spec := "modesAlways", inPlace := ["internal/bytealg.CountString", "internal/bytealg.IndexByteString", "internal/bytealg.IndexString"], unfollowed := true, recurses := true, named := ["unicode/utf8.first", "unicode/utf8.acceptRanges", "internal/bytealg.MaxLen"], apart := false, laid := [("unicode/utf8.acceptRanges", laid_unicode_utf8_acceptRanges), ("unicode/utf8.first", laid_unicode_utf8_first)], narrowed := true }
def ModesAlwaysUptoSaid : Prop := modesAlwaysUptoRow.holds Tryd.pinned (OpenSpec.upto modesAlwaysSpec)

/-- 'flightdecklaw49.ModesGround', WHERE WHAT IT READS IS OF BULK AT MOST 1048576: true; the input reads as it did. -/
def modesGroundUptoRow : OpenClaim := { program := "ytlpdcjbkbcmahaadoor", sum := "27075ff24ce76c5ef0716652a7cbb967fbb56bca974a2c1b49e5b0be3f3a2252", func := "flightdeck/flightdecklaw49.ModesGround", spec := "modesGround", inPlace := ["internal/bytealg.CountString", "internal/bytealg.IndexByteString", "internal/bytealg.IndexString"], unfollowed := true, recurses := true, named := ["unicode/utf8.first", "unicode/utf8.acceptRanges", "internal/bytealg.MaxLen"], apart := false, laid := [("unicode/utf8.acceptRanges", laid_unicode_utf8_acceptRanges), ("unicode/utf8.first", laid_unicode_utf8_first)], narrowed := true }
def ModesGroundUptoSaid : Prop := modesGroundUptoRow.holds Tryd.pinned (OpenSpec.upto modesGroundSpec)

/-- 'flightdecklaw49.ModesReverts', WHERE WHAT IT READS IS OF BULK AT MOST 1048576: true; the input reads as it did. -/
def modesRevertsUptoRow : OpenClaim := { program := "ytlpdcjbkbcmahaadoor", sum := "27075ff24ce76c5ef0716652a7cbb967fbb56bca974a2c1b49e5b0be3f3a2252", func := "flightdeck/flightdecklaw49.ModesReverts", spec := "modesReverts", inPlace := ["internal/bytealg.CountString", "internal/bytealg.IndexByteString", "internal/bytealg.IndexString"], unfollowed := true, recurses := true, named := ["unicode/utf8.first", "unicode/utf8.acceptRanges", "internal/bytealg.MaxLen"], apart := false, laid := [("unicode/utf8.acceptRanges", laid_unicode_utf8_acceptRanges), ("unicode/utf8.first", laid_unicode_utf8_first)], narrowed := true }
def ModesRevertsUptoSaid : Prop := modesRevertsUptoRow.holds Tryd.pinned (OpenSpec.upto modesRevertsSpec)

/-- 'flightdecklaw49.ModesCharts', WHERE WHAT IT READS IS OF BULK AT MOST 1048576: true; the input reads as it did. -/
def modesChartsUptoRow : OpenClaim := { program := "ytlpdcjbkbcmahaadoor", sum := "27075ff24ce76c5ef0716652a7cbb967fbb56bca974a2c1b49e5b0be3f3a2252", func := "flightdeck/flightdecklaw49.ModesCharts", spec := "modesCharts", inPlace := ["internal/bytealg.CountString", "internal/bytealg.IndexByteString", "internal/bytealg.IndexString"], unfollowed := true, recurses := true, named := ["unicode/utf8.first", "unicode/utf8.acceptRanges", "internal/bytealg.MaxLen"], apart := false, laid := [("unicode/utf8.acceptRanges", laid_unicode_utf8_acceptRanges), ("unicode/utf8.first", laid_unicode_utf8_first)], narrowed := true }
def ModesChartsUptoSaid : Prop := modesChartsUptoRow.holds Tryd.pinned (OpenSpec.upto modesChartsSpec)

end Rows
end Go.Proofs.YtlpdcjbkbcmahaaDoor

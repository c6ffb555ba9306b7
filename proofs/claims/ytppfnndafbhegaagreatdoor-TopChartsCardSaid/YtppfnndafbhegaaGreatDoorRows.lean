/-
  NARROWER THAN 'FOR EVERY INPUT', by the rows' own cells (each row's printed sentence says how): ChartcheckReaches: laid · ChartcheckShows: laid · ChartcheckFinds: laid · ChartcheckClosed: laid · ChartcheckWitnesses: laid · ChartcheckSound: laid · ChartcheckCompares: laid · ChartcheckFlattens: laid · ChartcheckAlike: laid · TopCharts: laid.
  DERIVED. THE GIVEN ROWS OF THIS SEAT. 10 by the template 'for every input the law returns true; each argument reads behind the call as it read before'; 0 by the template 'total and deterministic' (their statements: YtppfnndafbhegaaGreatDoorTotals.lean).
  GIVEN WITH THE SEED: the statements are not yours to turn. If you find one false, say at which input.
  Laid BY PROGRAM, IN A SANDBOX (cutbox-rows.mjs): the forced cells as the released guide's own fill.sh prints them over the translation 7ed9886036088a1a… (all of the seat's roots in one cut). By AI agents, Wed Nov 11 2026. No macro, syntax, notation, axiom, sorry.
-/
import Derived.Test.YtppfnndafbhegaaGreatDoorChecked
import GoSem.PinnedTables
import GoSem.Claim
import GoSem.ClaimJoined
import GoSem.ClaimMapViews
import Derived.JoinedTies
import Derived.KernelRfl
namespace Go.Proofs.YtppfnndafbhegaaGreatDoor
/- THE CELL 'sum', in the pinned program and in every row, IS THE sha256 OF THE DUMP (.gsa) THAT YtppfnndafbhegaaGreatDoorProg.lean LOADS. Nothing in Lean hashes anything: it is a label: what it is worth is what the hold of that sum in a sandbox is worth. -/
noncomputable def Tryz.pinned : Pinned := { name := "ytppfnndafbhegaagreatdoor", sum := "7ed9886036088a1a362de1466200e3f8d0630c57417ff72396708d32d451caa5", checked := Tryz.checked }
namespace Rows
def none {H : Type} : Left H := { results := [], args := [] }

/- WHAT THE LISTED PACKAGE-LEVEL VARIABLES READ AS WHEN THE CALL BEGINS. Each datum BY PROGRAM (the guide's laid-datum.mjs) off the statement by which the dump's own 'gosem.cut.vars' lays the variable. In a bare row this is a premise. The card (YtppfnndafbhegaaGreatDoorCards.lean) ties it to the program's text. -/
def laid_unicode_utf8_acceptRanges {H : Type} : DataW H := .agg [.agg [.lit (.int .u8 128), .lit (.int .u8 191)], .agg [.lit (.int .u8 160), .lit (.int .u8 191)], .agg [.lit (.int .u8 128), .lit (.int .u8 159)], .agg [.lit (.int .u8 144), .lit (.int .u8 191)], .agg [.lit (.int .u8 128), .lit (.int .u8 143)], .agg [.lit (.int .u8 0), .lit (.int .u8 0)], .agg [.lit (.int .u8 0), .lit (.int .u8 0)], .agg [.lit (.int .u8 0), .lit (.int .u8 0)], .agg [.lit (.int .u8 0), .lit (.int .u8 0)], .agg [.lit (.int .u8 0), .lit (.int .u8 0)], .agg [.lit (.int .u8 0), .lit (.int .u8 0)], .agg [.lit (.int .u8 0), .lit (.int .u8 0)], .agg [.lit (.int .u8 0), .lit (.int .u8 0)], .agg [.lit (.int .u8 0), .lit (.int .u8 0)], .agg [.lit (.int .u8 0), .lit (.int .u8 0)], .agg [.lit (.int .u8 0), .lit (.int .u8 0)]]
/-- One of Go's own tables, pinned by name: the form's constant. -/
def laid_unicode_utf8_first : DataW Unit := Go.Pinned.utf8First
def laid_math_bits_deBruijn32tab {H : Type} : DataW H := .agg [.lit (.int .u8 0), .lit (.int .u8 1), .lit (.int .u8 28), .lit (.int .u8 2), .lit (.int .u8 29), .lit (.int .u8 14), .lit (.int .u8 24), .lit (.int .u8 3), .lit (.int .u8 30), .lit (.int .u8 22), .lit (.int .u8 20), .lit (.int .u8 15), .lit (.int .u8 25), .lit (.int .u8 17), .lit (.int .u8 4), .lit (.int .u8 8), .lit (.int .u8 31), .lit (.int .u8 27), .lit (.int .u8 13), .lit (.int .u8 23), .lit (.int .u8 21), .lit (.int .u8 19), .lit (.int .u8 16), .lit (.int .u8 7), .lit (.int .u8 26), .lit (.int .u8 12), .lit (.int .u8 18), .lit (.int .u8 6), .lit (.int .u8 11), .lit (.int .u8 5), .lit (.int .u8 10), .lit (.int .u8 9)]
def laid_math_bits_deBruijn64tab {H : Type} : DataW H := .agg [.lit (.int .u8 0), .lit (.int .u8 1), .lit (.int .u8 56), .lit (.int .u8 2), .lit (.int .u8 57), .lit (.int .u8 49), .lit (.int .u8 28), .lit (.int .u8 3), .lit (.int .u8 61), .lit (.int .u8 58), .lit (.int .u8 42), .lit (.int .u8 50), .lit (.int .u8 38), .lit (.int .u8 29), .lit (.int .u8 17), .lit (.int .u8 4), .lit (.int .u8 62), .lit (.int .u8 47), .lit (.int .u8 59), .lit (.int .u8 36), .lit (.int .u8 45), .lit (.int .u8 43), .lit (.int .u8 51), .lit (.int .u8 22), .lit (.int .u8 53), .lit (.int .u8 39), .lit (.int .u8 33), .lit (.int .u8 30), .lit (.int .u8 24), .lit (.int .u8 18), .lit (.int .u8 12), .lit (.int .u8 5), .lit (.int .u8 63), .lit (.int .u8 55), .lit (.int .u8 48), .lit (.int .u8 27), .lit (.int .u8 60), .lit (.int .u8 41), .lit (.int .u8 37), .lit (.int .u8 16), .lit (.int .u8 46), .lit (.int .u8 35), .lit (.int .u8 44), .lit (.int .u8 21), .lit (.int .u8 52), .lit (.int .u8 32), .lit (.int .u8 23), .lit (.int .u8 11), .lit (.int .u8 54), .lit (.int .u8 26), .lit (.int .u8 40), .lit (.int .u8 15), .lit (.int .u8 34), .lit (.int .u8 20), .lit (.int .u8 31), .lit (.int .u8 10), .lit (.int .u8 25), .lit (.int .u8 14), .lit (.int .u8 19), .lit (.int .u8 9), .lit (.int .u8 13), .lit (.int .u8 8), .lit (.int .u8 7), .lit (.int .u8 6)]
def laid_internal_strconv_uint64pow10 {H : Type} : DataW H := .agg [.lit (.int .u64 1), .lit (.int .u64 10), .lit (.int .u64 100), .lit (.int .u64 1000), .lit (.int .u64 10000), .lit (.int .u64 100000), .lit (.int .u64 1000000), .lit (.int .u64 10000000), .lit (.int .u64 100000000), .lit (.int .u64 1000000000), .lit (.int .u64 10000000000), .lit (.int .u64 100000000000), .lit (.int .u64 1000000000000), .lit (.int .u64 10000000000000), .lit (.int .u64 100000000000000), .lit (.int .u64 1000000000000000), .lit (.int .u64 10000000000000000), .lit (.int .u64 100000000000000000), .lit (.int .u64 1000000000000000000), .lit (.int .u64 10000000000000000000)]

/-- 'flightdecklaw48.ChartcheckReaches': WHATEVER THE INPUT: true; the input reads as it did. -/
def chartcheckReachesSpec : ChangeSpec := { name := "chartcheckReaches", fn := fun _ => fun
  | [d] => { results := [.lit (.bool true)], args := [d] }
  | _ => none }
def chartcheckReachesRow : OpenClaim := { program := "ytppfnndafbhegaagreatdoor", sum := "7ed9886036088a1a362de1466200e3f8d0630c57417ff72396708d32d451caa5", func := "flightdeck/flightdecklaw48.ChartcheckReaches", spec := "chartcheckReaches", inPlace := ["internal/bytealg.CountString", "internal/bytealg.IndexByteString", "internal/bytealg.IndexString"], unfollowed := true, recurses := true, named := ["unicode/utf8.first", "unicode/utf8.acceptRanges", "internal/bytealg.MaxLen"], apart := false, laid := [("unicode/utf8.acceptRanges", laid_unicode_utf8_acceptRanges), ("unicode/utf8.first", laid_unicode_utf8_first)] }
def ChartcheckReachesSaid : Prop := chartcheckReachesRow.holds Tryz.pinned (OpenSpec.ofChange chartcheckReachesSpec)

/-- ITS FALSE NEIGHBOUR: 'it returns false'. Refute it at one input. -/
def chartcheckReachesWrong : ChangeSpec := { name := "chartcheckReaches", fn := fun _ => fun
  | [d] => { results := [.lit (.bool false)], args := [d] }
  | _ => none }
def ChartcheckReachesWrongFalsely : Prop := chartcheckReachesRow.holds Tryz.pinned (OpenSpec.ofChange chartcheckReachesWrong)

/-- 'flightdecklaw48.ChartcheckShows': WHATEVER THE INPUT: true; the input reads as it did. -/
def chartcheckShowsSpec : ChangeSpec := { name := "chartcheckShows", fn := fun _ => fun
  | [d] => { results := [.lit (.bool true)], args := [d] }
  | _ => none }
def chartcheckShowsRow : OpenClaim := { program := "ytppfnndafbhegaagreatdoor", sum := "7ed9886036088a1a362de1466200e3f8d0630c57417ff72396708d32d451caa5", func := "flightdeck/flightdecklaw48.ChartcheckShows", spec := "chartcheckShows", inPlace := ["internal/bytealg.CountString", "internal/bytealg.IndexByteString", "internal/bytealg.IndexString"], unfollowed := true, recurses := true, named := ["unicode/utf8.first", "unicode/utf8.acceptRanges", "internal/bytealg.MaxLen"], apart := false, laid := [("unicode/utf8.acceptRanges", laid_unicode_utf8_acceptRanges), ("unicode/utf8.first", laid_unicode_utf8_first)] }
def ChartcheckShowsSaid : Prop := chartcheckShowsRow.holds Tryz.pinned (OpenSpec.ofChange chartcheckShowsSpec)

/-- ITS FALSE NEIGHBOUR: 'it returns false'. Refute it at one input. -/
def chartcheckShowsWrong : ChangeSpec := { name := "chartcheckShows", fn := fun _ => fun
  | [d] => { results := [.lit (.bool false)], args := [d] }
  | _ => none }
def ChartcheckShowsWrongFalsely : Prop := chartcheckShowsRow.holds Tryz.pinned (OpenSpec.ofChange chartcheckShowsWrong)

/-- 'flightdecklaw48.ChartcheckFinds': WHATEVER THE INPUT: true; the input reads as it did. -/
def chartcheckFindsSpec : ChangeSpec := { name := "chartcheckFinds", fn := fun _ => fun
  | [d] => { results := [.lit (.bool true)], args := [d] }
  | _ => none }
def chartcheckFindsRow : OpenClaim := { program := "ytppfnndafbhegaagreatdoor", sum := "7ed9886036088a1a362de1466200e3f8d0630c57417ff72396708d32d451caa5", func := "flightdeck/flightdecklaw48.ChartcheckFinds", spec := "chartcheckFinds", inPlace := ["internal/bytealg.CountString", "internal/bytealg.IndexByteString", "internal/bytealg.IndexString"], unfollowed := true, recurses := true, named := ["unicode/utf8.first", "unicode/utf8.acceptRanges", "internal/bytealg.MaxLen"], apart := false, laid := [("unicode/utf8.acceptRanges", laid_unicode_utf8_acceptRanges), ("unicode/utf8.first", laid_unicode_utf8_first)] }
def ChartcheckFindsSaid : Prop := chartcheckFindsRow.holds Tryz.pinned (OpenSpec.ofChange chartcheckFindsSpec)

/-- ITS FALSE NEIGHBOUR: 'it returns false'. Refute it at one input. -/
def chartcheckFindsWrong : ChangeSpec := { name := "chartcheckFinds", fn := fun _ => fun
  | [d] => { results := [.lit (.bool false)], args := [d] }
  | _ => none }
def ChartcheckFindsWrongFalsely : Prop := chartcheckFindsRow.holds Tryz.pinned (OpenSpec.ofChange chartcheckFindsWrong)

/-- 'flightdecklaw48.ChartcheckClosed': WHATEVER THE INPUT: true; the input reads as it did. -/
def chartcheckClosedSpec : ChangeSpec := { name := "chartcheckClosed", fn := fun _ => fun
  | [d1, d2] => { results := [.lit (.bool true)], args := [d1, d2] }
  | _ => none }
def chartcheckClosedRow : OpenClaim := { program := "ytppfnndafbhegaagreatdoor", sum := "7ed9886036088a1a362de1466200e3f8d0630c57417ff72396708d32d451caa5", func := "flightdeck/flightdecklaw48.ChartcheckClosed", spec := "chartcheckClosed", inPlace := ["internal/bytealg.CountString", "internal/bytealg.IndexByteString", "internal/bytealg.IndexString"], unfollowed := true, recurses := true, named := ["unicode/utf8.first", "unicode/utf8.acceptRanges", "internal/bytealg.MaxLen"], apart := false, laid := [("unicode/utf8.acceptRanges", laid_unicode_utf8_acceptRanges), ("unicode/utf8.first", laid_unicode_utf8_first)] }
def ChartcheckClosedSaid : Prop := chartcheckClosedRow.holds Tryz.pinned (OpenSpec.ofChange chartcheckClosedSpec)

/-- ITS FALSE NEIGHBOUR: 'it returns false'. Refute it at one input. -/
def chartcheckClosedWrong : ChangeSpec := { name := "chartcheckClosed", fn := fun _ => fun
  | [d1, d2] => { results := [.lit (.bool false)], args := [d1, d2] }
  | _ => none }
def ChartcheckClosedWrongFalsely : Prop := chartcheckClosedRow.holds Tryz.pinned (OpenSpec.ofChange chartcheckClosedWrong)

/-- 'flightdecklaw48.ChartcheckWitnesses': WHATEVER THE INPUT: true; the input reads as it did. -/
def chartcheckWitnessesSpec : ChangeSpec := { name := "chartcheckWitnesses", fn := fun _ => fun
  | [d1, d2] => { results := [.lit (.bool true)], args := [d1, d2] }
  | _ => none }
def chartcheckWitnessesRow : OpenClaim := { program := "ytppfnndafbhegaagreatdoor", sum := "7ed9886036088a1a362de1466200e3f8d0630c57417ff72396708d32d451caa5", func := "flightdeck/flightdecklaw48.ChartcheckWitnesses", spec := "chartcheckWitnesses", inPlace := ["internal/bytealg.CountString", "internal/bytealg.IndexByteString", "internal/bytealg.IndexString"], unfollowed := true, recurses := true, named := ["unicode/utf8.first", "unicode/utf8.acceptRanges", "internal/bytealg.MaxLen"], apart := false, laid := [("unicode/utf8.acceptRanges", laid_unicode_utf8_acceptRanges), ("unicode/utf8.first", laid_unicode_utf8_first)] }
def ChartcheckWitnessesSaid : Prop := chartcheckWitnessesRow.holds Tryz.pinned (OpenSpec.ofChange chartcheckWitnessesSpec)

/-- ITS FALSE NEIGHBOUR: 'it returns false'. Refute it at one input. -/
def chartcheckWitnessesWrong : ChangeSpec := { name := "chartcheckWitnesses", fn := fun _ => fun
  | [d1, d2] => { results := [.lit (.bool false)], args := [d1, d2] }
  | _ => none }
def ChartcheckWitnessesWrongFalsely : Prop := chartcheckWitnessesRow.holds Tryz.pinned (OpenSpec.ofChange chartcheckWitnessesWrong)

/-- 'flightdecklaw48.ChartcheckSound': WHATEVER THE INPUT: true; the input reads as it did. -/
def chartcheckSoundSpec : ChangeSpec := { name := "chartcheckSound", fn := fun _ => fun
  | [d1, d2] => { results := [.lit (.bool true)], args := [d1, d2] }
  | _ => none }
def chartcheckSoundRow : OpenClaim := { program := "ytppfnndafbhegaagreatdoor", sum := "7ed9886036088a1a362de1466200e3f8d0630c57417ff72396708d32d451caa5", func := "flightdeck/flightdecklaw48.ChartcheckSound", spec := "chartcheckSound", inPlace := ["internal/bytealg.CountString", "internal/bytealg.IndexByteString", "internal/bytealg.IndexString"], unfollowed := true, recurses := true, named := ["unicode/utf8.first", "unicode/utf8.acceptRanges", "internal/bytealg.MaxLen"], apart := false, laid := [("unicode/utf8.acceptRanges", laid_unicode_utf8_acceptRanges), ("unicode/utf8.first", laid_unicode_utf8_first)] }
def ChartcheckSoundSaid : Prop := chartcheckSoundRow.holds Tryz.pinned (OpenSpec.ofChange chartcheckSoundSpec)

/-- ITS FALSE NEIGHBOUR: 'it returns false'. Refute it at one input. -/
def chartcheckSoundWrong : ChangeSpec := { name := "chartcheckSound", fn := fun _ => fun
  | [d1, d2] => { results := [.lit (.bool false)], args := [d1, d2] }
  | _ => none }
def ChartcheckSoundWrongFalsely : Prop := chartcheckSoundRow.holds Tryz.pinned (OpenSpec.ofChange chartcheckSoundWrong)

/-- 'flightdecklaw48.ChartcheckCompares': WHATEVER THE INPUT: true; the input reads as it did. -/
def chartcheckComparesSpec : ChangeSpec := { name := "chartcheckCompares", fn := fun _ => fun
  | [d1, d2] => { results := [.lit (.bool true)], args := [d1, d2] }
  | _ => none }
def chartcheckComparesRow : OpenClaim := { program := "ytppfnndafbhegaagreatdoor", sum := "7ed9886036088a1a362de1466200e3f8d0630c57417ff72396708d32d451caa5", func := "flightdeck/flightdecklaw48.ChartcheckCompares", spec := "chartcheckCompares", inPlace := ["internal/bytealg.CountString", "internal/bytealg.IndexByteString", "internal/bytealg.IndexString"], unfollowed := true, recurses := true, named := ["unicode/utf8.first", "unicode/utf8.acceptRanges", "internal/bytealg.MaxLen"], apart := false, laid := [("unicode/utf8.acceptRanges", laid_unicode_utf8_acceptRanges), ("unicode/utf8.first", laid_unicode_utf8_first)] }
def ChartcheckComparesSaid : Prop := chartcheckComparesRow.holds Tryz.pinned (OpenSpec.ofChange chartcheckComparesSpec)

/-- ITS FALSE NEIGHBOUR: 'it returns false'. Refute it at one input. -/
def chartcheckComparesWrong : ChangeSpec := { name := "chartcheckCompares", fn := fun _ => fun
  | [d1, d2] => { results := [.lit (.bool false)], args := [d1, d2] }
  | _ => none }
def ChartcheckComparesWrongFalsely : Prop := chartcheckComparesRow.holds Tryz.pinned (OpenSpec.ofChange chartcheckComparesWrong)

/-- 'flightdecklaw48.ChartcheckFlattens': WHATEVER THE INPUT: true; the input reads as it did. -/
def chartcheckFlattensSpec : ChangeSpec := { name := "chartcheckFlattens", fn := fun _ => fun
  | [d] => { results := [.lit (.bool true)], args := [d] }
  | _ => none }
def chartcheckFlattensRow : OpenClaim := { program := "ytppfnndafbhegaagreatdoor", sum := "7ed9886036088a1a362de1466200e3f8d0630c57417ff72396708d32d451caa5", func := "flightdeck/flightdecklaw48.ChartcheckFlattens", spec := "chartcheckFlattens", inPlace := ["internal/bytealg.CountString", "internal/bytealg.IndexByteString", "internal/bytealg.IndexString"], unfollowed := true, recurses := true, named := ["unicode/utf8.first", "unicode/utf8.acceptRanges", "internal/bytealg.MaxLen", "internal/strconv.uint64pow10", "math/bits.deBruijn32tab", "math/bits.deBruijn64tab"], apart := false, laid := [("math/bits.deBruijn32tab", laid_math_bits_deBruijn32tab), ("math/bits.deBruijn64tab", laid_math_bits_deBruijn64tab), ("internal/strconv.uint64pow10", laid_internal_strconv_uint64pow10), ("unicode/utf8.acceptRanges", laid_unicode_utf8_acceptRanges), ("unicode/utf8.first", laid_unicode_utf8_first)] }
def ChartcheckFlattensSaid : Prop := chartcheckFlattensRow.holds Tryz.pinned (OpenSpec.ofChange chartcheckFlattensSpec)

/-- ITS FALSE NEIGHBOUR: 'it returns false'. Refute it at one input. -/
def chartcheckFlattensWrong : ChangeSpec := { name := "chartcheckFlattens", fn := fun _ => fun
  | [d] => { results := [.lit (.bool false)], args := [d] }
  | _ => none }
def ChartcheckFlattensWrongFalsely : Prop := chartcheckFlattensRow.holds Tryz.pinned (OpenSpec.ofChange chartcheckFlattensWrong)

/-- 'flightdecklaw48.ChartcheckAlike': WHATEVER THE INPUT: true; the input reads as it did. -/
def chartcheckAlikeSpec : ChangeSpec := { name := "chartcheckAlike", fn := fun _ => fun
  | [d1, d2] => { results := [.lit (.bool true)], args := [d1, d2] }
  | _ => none }
def chartcheckAlikeRow : OpenClaim := { program := "ytppfnndafbhegaagreatdoor", sum := "7ed9886036088a1a362de1466200e3f8d0630c57417ff72396708d32d451caa5", func := "flightdeck/flightdecklaw48.ChartcheckAlike", spec := "chartcheckAlike", inPlace := ["internal/bytealg.CountString", "internal/bytealg.IndexByteString", "internal/bytealg.IndexString"], unfollowed := true, recurses := true, named := ["unicode/utf8.first", "unicode/utf8.acceptRanges", "internal/bytealg.MaxLen", "internal/strconv.uint64pow10", "math/bits.deBruijn32tab", "math/bits.deBruijn64tab"], apart := false, laid := [("math/bits.deBruijn32tab", laid_math_bits_deBruijn32tab), ("math/bits.deBruijn64tab", laid_math_bits_deBruijn64tab), ("internal/strconv.uint64pow10", laid_internal_strconv_uint64pow10), ("unicode/utf8.acceptRanges", laid_unicode_utf8_acceptRanges), ("unicode/utf8.first", laid_unicode_utf8_first)] }
def ChartcheckAlikeSaid : Prop := chartcheckAlikeRow.holds Tryz.pinned (OpenSpec.ofChange chartcheckAlikeSpec)

/-- ITS FALSE NEIGHBOUR: 'it returns false'. Refute it at one input. -/
def chartcheckAlikeWrong : ChangeSpec := { name := "chartcheckAlike", fn := fun _ => fun
  | [d1, d2] => { results := [.lit (.bool false)], args := [d1, d2] }
  | _ => none }
def ChartcheckAlikeWrongFalsely : Prop := chartcheckAlikeRow.holds Tryz.pinned (OpenSpec.ofChange chartcheckAlikeWrong)

/-- 'flightdecktop.TopCharts': WHATEVER THE INPUT: true; the input reads as it did. -/
def topChartsSpec : ChangeSpec := { name := "topCharts", fn := fun _ => fun
  | [d1, d2] => { results := [.lit (.bool true)], args := [d1, d2] }
  | _ => none }
def topChartsRow : OpenClaim := { program := "ytppfnndafbhegaagreatdoor", sum := "7ed9886036088a1a362de1466200e3f8d0630c57417ff72396708d32d451caa5", func := "flightdeck/flightdecktop.TopCharts", spec := "topCharts", inPlace := ["internal/bytealg.CountString", "internal/bytealg.IndexByteString", "internal/bytealg.IndexString"], unfollowed := true, recurses := true, named := ["unicode/utf8.first", "unicode/utf8.acceptRanges", "internal/bytealg.MaxLen", "internal/strconv.uint64pow10", "math/bits.deBruijn32tab", "math/bits.deBruijn64tab"], apart := false, laid := [("math/bits.deBruijn32tab", laid_math_bits_deBruijn32tab), ("math/bits.deBruijn64tab", laid_math_bits_deBruijn64tab), ("internal/strconv.uint64pow10", laid_internal_strconv_uint64pow10), ("unicode/utf8.acceptRanges", laid_unicode_utf8_acceptRanges), ("unicode/utf8.first", laid_unicode_utf8_first)] }
def TopChartsSaid : Prop := topChartsRow.holds Tryz.pinned (OpenSpec.ofChange topChartsSpec)

/-- ITS FALSE NEIGHBOUR: 'it returns false'. Refute it at one input. -/
def topChartsWrong : ChangeSpec := { name := "topCharts", fn := fun _ => fun
  | [d1, d2] => { results := [.lit (.bool false)], args := [d1, d2] }
  | _ => none }
def TopChartsWrongFalsely : Prop := topChartsRow.holds Tryz.pinned (OpenSpec.ofChange topChartsWrong)

/- THE SECOND FORM. 'bulk': how many values and letters a reading holds, each counted each time it is reached (what is shared counts as often as it is met; a slice's spare places count too). A statement '..UptoSaid' is the law's where the arguments, and the package variables that the reading takes, are together of bulk at most 1048576: NARROWER than '..Said'. Prove '..Said' where nothing that the law and all that it calls make is longer than what came in: it says more and counts as full. Else prove '..UptoSaid'. A law counts once. -/
mutual
def uptoBulk {H : Type} : DataW H → Nat
  | .lit (.string bytes) => bytes.length + 1
  | .lit _ => 1
  | .nil => 1
  | .ptr d => uptoBulk d + 1
  | .slice elems spare => uptoBulkAll elems + uptoBulkAll spare + 1
  | .agg parts => uptoBulkAll parts + 1
  | .iface _ d => uptoBulk d + 1
  | .map entries => uptoBulkEntries entries + 1
  | .held _ => 1
def uptoBulkAll {H : Type} : List (DataW H) → Nat
  | [] => 0
  | d :: r => uptoBulk d + uptoBulkAll r
def uptoBulkEntries {H : Type} : List (Lit × DataW H) → Nat
  | [] => 0
  | x :: r => uptoBulkEntry x + uptoBulkEntries r
def uptoBulkEntry {H : Type} : Lit × DataW H → Nat
  | (.string bytes, d) => bytes.length + uptoBulk d + 1
  | (_, d) => uptoBulk d + 1
 end
def uptoSmall : (H : Type) → List (DataW H) → Bool := fun _ ds => decide (uptoBulkAll ds ≤ 1048576)
def OpenSpec.upto (s : _root_.Go.ChangeSpec) : _root_.Go.OpenSpec := { _root_.Go.OpenSpec.ofChange s with cond := some uptoSmall }

/-- 'flightdecklaw48.ChartcheckReaches', WHERE WHAT IT READS IS OF BULK AT MOST 1048576: true; the input reads as it did. -/
def chartcheckReachesUptoRow : OpenClaim := { program := "ytppfnndafbhegaagreatdoor", sum := "7ed9886036088a1a362de1466200e3f8d0630c57417ff72396708d32d451caa5", func := "flightdeck/flightdecklaw48.ChartcheckReaches", spec := "chartcheckReaches", inPlace := ["internal/bytealg.CountString", "internal/bytealg.IndexByteString", "internal/bytealg.IndexString"], unfollowed := true, recurses := true, named := ["unicode/utf8.first", "unicode/utf8.acceptRanges", "internal/bytealg.MaxLen"], apart := false, laid := [("unicode/utf8.acceptRanges", laid_unicode_utf8_acceptRanges), ("unicode/utf8.first", laid_unicode_utf8_first)], narrowed := true }
def ChartcheckReachesUptoSaid : Prop := chartcheckReachesUptoRow.holds Tryz.pinned (OpenSpec.upto chartcheckReachesSpec)

/-- 'flightdecklaw48.ChartcheckShows', WHERE WHAT IT READS IS OF BULK AT MOST 1048576: true; the input reads as it did. -/
def chartcheckShowsUptoRow : OpenClaim := { program := "ytppfnndafbhegaagreatdoor", sum := "7ed9886036088a1a362de1466200e3f8d0630c57417ff72396708d32d451caa5", func := "flightdeck/flightdecklaw48.ChartcheckShows", spec := "chartcheckShows", inPlace := ["internal/bytealg.CountString", "internal/bytealg.IndexByteString", "internal/bytealg.IndexString"], unfollowed := true, recurses := true, named := ["unicode/utf8.first", "unicode/utf8.acceptRanges", "internal/bytealg.MaxLen"], apart := false, laid := [("unicode/utf8.acceptRanges", laid_unicode_utf8_acceptRanges), ("unicode/utf8.first", laid_unicode_utf8_first)], narrowed := true }
def ChartcheckShowsUptoSaid : Prop := chartcheckShowsUptoRow.holds Tryz.pinned (OpenSpec.upto chartcheckShowsSpec)

/-- 'flightdecklaw48.ChartcheckFinds', WHERE WHAT IT READS IS OF BULK AT MOST 1048576: true; the input reads as it did. -/
def chartcheckFindsUptoRow : OpenClaim := { program := "ytppfnndafbhegaagreatdoor", sum := "7ed9886036088a1a362de1466200e3f8d0630c57417ff72396708d32d451caa5", func := "flightdeck/flightdecklaw48.ChartcheckFinds", spec := "chartcheckFinds", inPlace := ["internal/bytealg.CountString", "internal/bytealg.IndexByteString", "internal/bytealg.IndexString"], unfollowed := true, recurses := true, named := ["unicode/utf8.first", "unicode/utf8.acceptRanges", "internal/bytealg.MaxLen"], apart := false, laid := [("unicode/utf8.acceptRanges", laid_unicode_utf8_acceptRanges), ("unicode/utf8.first", laid_unicode_utf8_first)], narrowed := true }
def ChartcheckFindsUptoSaid : Prop := chartcheckFindsUptoRow.holds Tryz.pinned (OpenSpec.upto chartcheckFindsSpec)

/-- 'flightdecklaw48.ChartcheckClosed', WHERE WHAT IT READS IS OF BULK AT MOST 1048576: true; the input reads as it did. -/
def chartcheckClosedUptoRow : OpenClaim := { program := "ytppfnndafbhegaagreatdoor", sum := "7ed9886036088a1a362de1466200e3f8d0630c57417ff72396708d32d451caa5", func := "flightdeck/flightdecklaw48.ChartcheckClosed", spec := "chartcheckClosed", inPlace := ["internal/bytealg.CountString", "internal/bytealg.IndexByteString", "internal/bytealg.IndexString"], unfollowed := true, recurses := true, named := ["unicode/utf8.first", "unicode/utf8.acceptRanges", "internal/bytealg.MaxLen"], apart := false, laid := [("unicode/utf8.acceptRanges", laid_unicode_utf8_acceptRanges), ("unicode/utf8.first", laid_unicode_utf8_first)], narrowed := true }
def ChartcheckClosedUptoSaid : Prop := chartcheckClosedUptoRow.holds Tryz.pinned (OpenSpec.upto chartcheckClosedSpec)

/-- 'flightdecklaw48.ChartcheckWitnesses', WHERE WHAT IT READS IS OF BULK AT MOST 1048576: true; the input reads as it did. -/
def chartcheckWitnessesUptoRow : OpenClaim := { program := "ytppfnndafbhegaagreatdoor", sum := "7ed9886036088a1a362de1466200e3f8d0630c57417ff72396708d32d451caa5", func := "flightdeck/flightdecklaw48.ChartcheckWitnesses", spec := "chartcheckWitnesses", inPlace := ["internal/bytealg.CountString", "internal/bytealg.IndexByteString", "internal/bytealg.IndexString"], unfollowed := true, recurses := true, named := ["unicode/utf8.first", "unicode/utf8.acceptRanges", "internal/bytealg.MaxLen"], apart := false, laid := [("unicode/utf8.acceptRanges", laid_unicode_utf8_acceptRanges), ("unicode/utf8.first", laid_unicode_utf8_first)], narrowed := true }
def ChartcheckWitnessesUptoSaid : Prop := chartcheckWitnessesUptoRow.holds Tryz.pinned (OpenSpec.upto chartcheckWitnessesSpec)

/-- 'flightdecklaw48.ChartcheckSound', WHERE WHAT IT READS IS OF BULK AT MOST 1048576: true; the input reads as it did. -/
def chartcheckSoundUptoRow : OpenClaim := { program := "ytppfnndafbhegaagreatdoor", sum := "7ed9886036088a1a362de1466200e3f8d0630c57417ff72396708d32d451caa5", func := "flightdeck/flightdecklaw48.ChartcheckSound", spec := "chartcheckSound", inPlace := ["internal/bytealg.CountString", "internal/bytealg.IndexByteString", "internal/bytealg.IndexString"], unfollowed := true, recurses := true, named := ["unicode/utf8.first", "unicode/utf8.acceptRanges", "internal/bytealg.MaxLen"], apart := false, laid := [("unicode/utf8.acceptRanges", laid_unicode_utf8_acceptRanges), ("unicode/utf8.first", laid_unicode_utf8_first)], narrowed := true }
def ChartcheckSoundUptoSaid : Prop := chartcheckSoundUptoRow.holds Tryz.pinned (OpenSpec.upto chartcheckSoundSpec)

/-- 'flightdecklaw48.ChartcheckCompares', WHERE WHAT IT READS IS OF BULK AT MOST 1048576: true; the input reads as it did. -/
def chartcheckComparesUptoRow : OpenClaim := { program := "ytppfnndafbhegaagreatdoor", sum := "7ed9886036088a1a362de1466200e3f8d0630c57417ff72396708d32d451caa5", func := "flightdeck/flightdecklaw48.ChartcheckCompares", spec := "chartcheckCompares", inPlace := ["internal/bytealg.CountString", "internal/bytealg.IndexByteString", "internal/bytealg.IndexString"], unfollowed := true, recurses := true, named := ["unicode/utf8.first", "unicode/utf8.acceptRanges", "internal/bytealg.MaxLen"], apart := false, laid := [("unicode/utf8.acceptRanges", laid_unicode_utf8_acceptRanges), ("unicode/utf8.first", laid_unicode_utf8_first)], narrowed := true }
def ChartcheckComparesUptoSaid : Prop := chartcheckComparesUptoRow.holds Tryz.pinned (OpenSpec.upto chartcheckComparesSpec)

/-- 'flightdecklaw48.ChartcheckFlattens', WHERE WHAT IT READS IS OF BULK AT MOST 1048576: true; the input reads as it did. -/
def chartcheckFlattensUptoRow : OpenClaim := { program := "ytppfnndafbhegaagreatdoor", sum := "7ed9886036088a1a362de1466200e3f8d0630c57417ff72396708d32d451caa5", func := "flightdeck/flightdecklaw48.ChartcheckFlattens", spec := "chartcheckFlattens", inPlace := ["internal/bytealg.CountString", "internal/bytealg.IndexByteString", "internal/bytealg.IndexString"], unfollowed := true, recurses := true, named := ["unicode/utf8.first", "unicode/utf8.acceptRanges", "internal/bytealg.MaxLen", "internal/strconv.uint64pow10", "math/bits.deBruijn32tab", "math/bits.deBruijn64tab"], apart := false, laid := [("math/bits.deBruijn32tab", laid_math_bits_deBruijn32tab), ("math/bits.deBruijn64tab", laid_math_bits_deBruijn64tab), ("internal/strconv.uint64pow10", laid_internal_strconv_uint64pow10), ("unicode/utf8.acceptRanges", laid_unicode_utf8_acceptRanges), ("unicode/utf8.first", laid_unicode_utf8_first)], narrowed := true }
def ChartcheckFlattensUptoSaid : Prop := chartcheckFlattensUptoRow.holds Tryz.pinned (OpenSpec.upto chartcheckFlattensSpec)

/-- 'flightdecklaw48.ChartcheckAlike', WHERE WHAT IT READS IS OF BULK AT MOST 1048576: true; the input reads as it did. -/
def chartcheckAlikeUptoRow : OpenClaim := { program := "ytppfnndafbhegaagreatdoor", sum := "7ed9886036088a1a362de1466200e3f8d0630c57417ff72396708d32d451caa5", func := "flightdeck/flightdecklaw48.ChartcheckAlike", spec := "chartcheckAlike", inPlace := ["internal/bytealg.CountString", "internal/bytealg.IndexByteString", "internal/bytealg.IndexString"], unfollowed := true, recurses := true, named := ["unicode/utf8.first", "unicode/utf8.acceptRanges", "internal/bytealg.MaxLen", "internal/strconv.uint64pow10", "math/bits.deBruijn32tab", "math/bits.deBruijn64tab"], apart := false, laid := [("math/bits.deBruijn32tab", laid_math_bits_deBruijn32tab), ("math/bits.deBruijn64tab", laid_math_bits_deBruijn64tab), ("internal/strconv.uint64pow10", laid_internal_strconv_uint64pow10), ("unicode/utf8.acceptRanges", laid_unicode_utf8_acceptRanges), ("unicode/utf8.first", laid_unicode_utf8_first)], narrowed := true }
def ChartcheckAlikeUptoSaid : Prop := chartcheckAlikeUptoRow.holds Tryz.pinned (OpenSpec.upto chartcheckAlikeSpec)

/-- 'flightdecktop.TopCharts', WHERE WHAT IT READS IS OF BULK AT MOST 1048576: true; the input reads as it did. -/
def topChartsUptoRow : OpenClaim := { program := "ytppfnndafbhegaagreatdoor", sum := "7ed9886036088a1a362de1466200e3f8d0630c57417ff72396708d32d451caa5", func := "flightdeck/flightdecktop.TopCharts", spec := "topCharts", inPlace := ["internal/bytealg.CountString", "internal/bytealg.IndexByteString", "internal/bytealg.IndexString"], unfollowed := true, recurses := true, named := ["unicode/utf8.first", "unicode/utf8.acceptRanges", "internal/bytealg.MaxLen", "internal/strconv.uint64pow10", "math/bits.deBruijn32tab", "math/bits.deBruijn64tab"], apart := false, laid := [("math/bits.deBruijn32tab", laid_math_bits_deBruijn32tab), ("math/bits.deBruijn64tab", laid_math_bits_deBruijn64tab), ("internal/strconv.uint64pow10", laid_internal_strconv_uint64pow10), ("unicode/utf8.acceptRanges", laid_unicode_utf8_acceptRanges), ("unicode/utf8.first", laid_unicode_utf8_first)], narrowed := true }
def TopChartsUptoSaid : Prop := topChartsUptoRow.holds Tryz.pinned (OpenSpec.upto topChartsSpec)

end Rows
end Go.Proofs.YtppfnndafbhegaaGreatDoor

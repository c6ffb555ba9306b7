/-
  NARROWER THAN 'FOR EVERY INPUT', by the rows' own cells (each row's printed sentence says how): ChartChecks: laid · ChartEnables: laid · ChartStarts: laid · ChartFires: laid · ChartSteps: laid · ChartRuns: laid · ChartDivides: laid · ChartTexts: laid · ChartKeeps: laid · ChartPaths: laid.
  DERIVED. THE GIVEN ROWS OF THIS SEAT. 10 by the template 'for every input the law returns true; each argument reads behind the call as it read before'; 0 by the template 'total and deterministic' (their statements: YtpdncdnjkjpigaaGreatDoorTotals.lean).
  GIVEN WITH THE SEED: the statements are not yours to turn. If you find one false, say at which input.
  Laid BY PROGRAM, IN A SANDBOX (cutbox-rows.mjs): the forced cells as the released guide's own fill.sh prints them over the translation bcc18597540b084f… (all of the seat's roots in one cut). By AI agents, Wed Nov 11 2026. No macro, syntax, notation, axiom, sorry.
-/
import Derived.Test.YtpdncdnjkjpigaaGreatDoorChecked
import GoSem.PinnedTables
import GoSem.Claim
import GoSem.ClaimJoined
import GoSem.ClaimMapViews
import Derived.JoinedTies
import Derived.KernelRfl
namespace Go.Proofs.YtpdncdnjkjpigaaGreatDoor
/- THE CELL 'sum', in the pinned program and in every row, IS THE sha256 OF THE DUMP (.gsa) THAT YtpdncdnjkjpigaaGreatDoorProg.lean LOADS. Nothing in Lean hashes anything: it is a label: what it is worth is what the hold of that sum in a sandbox is worth. -/
noncomputable def Tryz.pinned : Pinned := { name := "ytpdncdnjkjpigaagreatdoor", sum := "bcc18597540b084f86cd19029a033bf5fdde90c7e4d5af3b202c256541a2e961", checked := Tryz.checked }
namespace Rows
def none {H : Type} : Left H := { results := [], args := [] }

/- WHAT THE LISTED PACKAGE-LEVEL VARIABLES READ AS WHEN THE CALL BEGINS. Each datum BY PROGRAM (the guide's laid-datum.mjs) off the statement by which the dump's own 'gosem.cut.vars' lays the variable. In a bare row this is a premise. The card (YtpdncdnjkjpigaaGreatDoorCards.lean) ties it to the program's text. -/
def laid_unicode_utf8_acceptRanges {H : Type} : DataW H := .agg [.agg [.lit (.int .u8 128), .lit (.int .u8 191)], .agg [.lit (.int .u8 160), .lit (.int .u8 191)], .agg [.lit (.int .u8 128), .lit (.int .u8 159)], .agg [.lit (.int .u8 144), .lit (.int .u8 191)], .agg [.lit (.int .u8 128), .lit (.int .u8 143)], .agg [.lit (.int .u8 0), .lit (.int .u8 0)], .agg [.lit (.int .u8 0), .lit (.int .u8 0)], .agg [.lit (.int .u8 0), .lit (.int .u8 0)], .agg [.lit (.int .u8 0), .lit (.int .u8 0)], .agg [.lit (.int .u8 0), .lit (.int .u8 0)], .agg [.lit (.int .u8 0), .lit (.int .u8 0)], .agg [.lit (.int .u8 0), .lit (.int .u8 0)], .agg [.lit (.int .u8 0), .lit (.int .u8 0)], .agg [.lit (.int .u8 0), .lit (.int .u8 0)], .agg [.lit (.int .u8 0), .lit (.int .u8 0)], .agg [.lit (.int .u8 0), .lit (.int .u8 0)]]
/-- One of Go's own tables, pinned by name: the form's constant. -/
def laid_unicode_utf8_first : DataW Unit := Go.Pinned.utf8First

/-- 'flightdecklaw47.ChartChecks': WHATEVER THE INPUT: true; the input reads as it did. -/
def chartChecksSpec : ChangeSpec := { name := "chartChecks", fn := fun _ => fun
  | [d] => { results := [.lit (.bool true)], args := [d] }
  | _ => none }
def chartChecksRow : OpenClaim := { program := "ytpdncdnjkjpigaagreatdoor", sum := "bcc18597540b084f86cd19029a033bf5fdde90c7e4d5af3b202c256541a2e961", func := "flightdeck/flightdecklaw47.ChartChecks", spec := "chartChecks", inPlace := ["internal/bytealg.CountString", "internal/bytealg.IndexByteString", "internal/bytealg.IndexString", "internal/abi.NoEscape"], unfollowed := true, recurses := true, named := ["unicode/utf8.first", "unicode/utf8.acceptRanges", "internal/bytealg.MaxLen"], apart := false, laid := [("unicode/utf8.acceptRanges", laid_unicode_utf8_acceptRanges), ("unicode/utf8.first", laid_unicode_utf8_first)] }
def ChartChecksSaid : Prop := chartChecksRow.holds Tryz.pinned (OpenSpec.ofChange chartChecksSpec)

/-- ITS FALSE NEIGHBOUR: 'it returns false'. Refute it at one input. -/
def chartChecksWrong : ChangeSpec := { name := "chartChecks", fn := fun _ => fun
  | [d] => { results := [.lit (.bool false)], args := [d] }
  | _ => none }
def ChartChecksWrongFalsely : Prop := chartChecksRow.holds Tryz.pinned (OpenSpec.ofChange chartChecksWrong)

/-- 'flightdecklaw47.ChartEnables': WHATEVER THE INPUT: true; the input reads as it did. -/
def chartEnablesSpec : ChangeSpec := { name := "chartEnables", fn := fun _ => fun
  | [d1, d2, d3] => { results := [.lit (.bool true)], args := [d1, d2, d3] }
  | _ => none }
def chartEnablesRow : OpenClaim := { program := "ytpdncdnjkjpigaagreatdoor", sum := "bcc18597540b084f86cd19029a033bf5fdde90c7e4d5af3b202c256541a2e961", func := "flightdeck/flightdecklaw47.ChartEnables", spec := "chartEnables", inPlace := ["internal/bytealg.CountString", "internal/bytealg.IndexByteString", "internal/bytealg.IndexString", "internal/abi.NoEscape"], unfollowed := true, recurses := true, named := ["unicode/utf8.first", "unicode/utf8.acceptRanges", "internal/bytealg.MaxLen"], apart := false, laid := [("unicode/utf8.acceptRanges", laid_unicode_utf8_acceptRanges), ("unicode/utf8.first", laid_unicode_utf8_first)] }
def ChartEnablesSaid : Prop := chartEnablesRow.holds Tryz.pinned (OpenSpec.ofChange chartEnablesSpec)

/-- ITS FALSE NEIGHBOUR: 'it returns false'. Refute it at one input. -/
def chartEnablesWrong : ChangeSpec := { name := "chartEnables", fn := fun _ => fun
  | [d1, d2, d3] => { results := [.lit (.bool false)], args := [d1, d2, d3] }
  | _ => none }
def ChartEnablesWrongFalsely : Prop := chartEnablesRow.holds Tryz.pinned (OpenSpec.ofChange chartEnablesWrong)

/-- 'flightdecklaw47.ChartStarts': WHATEVER THE INPUT: true; the input reads as it did. -/
def chartStartsSpec : ChangeSpec := { name := "chartStarts", fn := fun _ => fun
  | [d1, d2] => { results := [.lit (.bool true)], args := [d1, d2] }
  | _ => none }
def chartStartsRow : OpenClaim := { program := "ytpdncdnjkjpigaagreatdoor", sum := "bcc18597540b084f86cd19029a033bf5fdde90c7e4d5af3b202c256541a2e961", func := "flightdeck/flightdecklaw47.ChartStarts", spec := "chartStarts", inPlace := ["internal/bytealg.CountString", "internal/bytealg.IndexByteString", "internal/bytealg.IndexString", "internal/abi.NoEscape"], unfollowed := true, recurses := true, named := ["unicode/utf8.first", "unicode/utf8.acceptRanges", "internal/bytealg.MaxLen"], apart := false, laid := [("unicode/utf8.acceptRanges", laid_unicode_utf8_acceptRanges), ("unicode/utf8.first", laid_unicode_utf8_first)] }
def ChartStartsSaid : Prop := chartStartsRow.holds Tryz.pinned (OpenSpec.ofChange chartStartsSpec)

/-- ITS FALSE NEIGHBOUR: 'it returns false'. Refute it at one input. -/
def chartStartsWrong : ChangeSpec := { name := "chartStarts", fn := fun _ => fun
  | [d1, d2] => { results := [.lit (.bool false)], args := [d1, d2] }
  | _ => none }
def ChartStartsWrongFalsely : Prop := chartStartsRow.holds Tryz.pinned (OpenSpec.ofChange chartStartsWrong)

/-- 'flightdecklaw47.ChartFires': WHATEVER THE INPUT: true; the input reads as it did. -/
def chartFiresSpec : ChangeSpec := { name := "chartFires", fn := fun _ => fun
  | [d1, d2, d3] => { results := [.lit (.bool true)], args := [d1, d2, d3] }
  | _ => none }
def chartFiresRow : OpenClaim := { program := "ytpdncdnjkjpigaagreatdoor", sum := "bcc18597540b084f86cd19029a033bf5fdde90c7e4d5af3b202c256541a2e961", func := "flightdeck/flightdecklaw47.ChartFires", spec := "chartFires", inPlace := ["internal/bytealg.CountString", "internal/bytealg.IndexByteString", "internal/bytealg.IndexString", "internal/abi.NoEscape"], unfollowed := true, recurses := true, named := ["unicode/utf8.first", "unicode/utf8.acceptRanges", "internal/bytealg.MaxLen"], apart := false, laid := [("unicode/utf8.acceptRanges", laid_unicode_utf8_acceptRanges), ("unicode/utf8.first", laid_unicode_utf8_first)] }
def ChartFiresSaid : Prop := chartFiresRow.holds Tryz.pinned (OpenSpec.ofChange chartFiresSpec)

/-- ITS FALSE NEIGHBOUR: 'it returns false'. Refute it at one input. -/
def chartFiresWrong : ChangeSpec := { name := "chartFires", fn := fun _ => fun
  | [d1, d2, d3] => { results := [.lit (.bool false)], args := [d1, d2, d3] }
  | _ => none }
def ChartFiresWrongFalsely : Prop := chartFiresRow.holds Tryz.pinned (OpenSpec.ofChange chartFiresWrong)

/-- 'flightdecklaw47.ChartSteps': WHATEVER THE INPUT: true; the input reads as it did. -/
def chartStepsSpec : ChangeSpec := { name := "chartSteps", fn := fun _ => fun
  | [d1, d2, d3] => { results := [.lit (.bool true)], args := [d1, d2, d3] }
  | _ => none }
def chartStepsRow : OpenClaim := { program := "ytpdncdnjkjpigaagreatdoor", sum := "bcc18597540b084f86cd19029a033bf5fdde90c7e4d5af3b202c256541a2e961", func := "flightdeck/flightdecklaw47.ChartSteps", spec := "chartSteps", inPlace := ["internal/bytealg.CountString", "internal/bytealg.IndexByteString", "internal/bytealg.IndexString", "internal/abi.NoEscape"], unfollowed := true, recurses := true, named := ["unicode/utf8.first", "unicode/utf8.acceptRanges", "internal/bytealg.MaxLen"], apart := false, laid := [("unicode/utf8.acceptRanges", laid_unicode_utf8_acceptRanges), ("unicode/utf8.first", laid_unicode_utf8_first)] }
def ChartStepsSaid : Prop := chartStepsRow.holds Tryz.pinned (OpenSpec.ofChange chartStepsSpec)

/-- ITS FALSE NEIGHBOUR: 'it returns false'. Refute it at one input. -/
def chartStepsWrong : ChangeSpec := { name := "chartSteps", fn := fun _ => fun
  | [d1, d2, d3] => { results := [.lit (.bool false)], args := [d1, d2, d3] }
  | _ => none }
def ChartStepsWrongFalsely : Prop := chartStepsRow.holds Tryz.pinned (OpenSpec.ofChange chartStepsWrong)

/-- 'flightdecklaw47.ChartRuns': WHATEVER THE INPUT: true; the input reads as it did. -/
def chartRunsSpec : ChangeSpec := { name := "chartRuns", fn := fun _ => fun
  | [d1, d2] => { results := [.lit (.bool true)], args := [d1, d2] }
  | _ => none }
def chartRunsRow : OpenClaim := { program := "ytpdncdnjkjpigaagreatdoor", sum := "bcc18597540b084f86cd19029a033bf5fdde90c7e4d5af3b202c256541a2e961", func := "flightdeck/flightdecklaw47.ChartRuns", spec := "chartRuns", inPlace := ["internal/bytealg.CountString", "internal/bytealg.IndexByteString", "internal/bytealg.IndexString", "internal/abi.NoEscape"], unfollowed := true, recurses := true, named := ["unicode/utf8.first", "unicode/utf8.acceptRanges", "internal/bytealg.MaxLen"], apart := false, laid := [("unicode/utf8.acceptRanges", laid_unicode_utf8_acceptRanges), ("unicode/utf8.first", laid_unicode_utf8_first)] }
def ChartRunsSaid : Prop := chartRunsRow.holds Tryz.pinned (OpenSpec.ofChange chartRunsSpec)

/-- ITS FALSE NEIGHBOUR: 'it returns false'. Refute it at one input. -/
def chartRunsWrong : ChangeSpec := { name := "chartRuns", fn := fun _ => fun
  | [d1, d2] => { results := [.lit (.bool false)], args := [d1, d2] }
  | _ => none }
def ChartRunsWrongFalsely : Prop := chartRunsRow.holds Tryz.pinned (OpenSpec.ofChange chartRunsWrong)

/-- 'flightdecklaw47.ChartDivides': WHATEVER THE INPUT: true; the input reads as it did. -/
def chartDividesSpec : ChangeSpec := { name := "chartDivides", fn := fun _ => fun
  | [d1, d2] => { results := [.lit (.bool true)], args := [d1, d2] }
  | _ => none }
def chartDividesRow : OpenClaim := { program := "ytpdncdnjkjpigaagreatdoor", sum := "bcc18597540b084f86cd19029a033bf5fdde90c7e4d5af3b202c256541a2e961", func := "flightdeck/flightdecklaw47.ChartDivides", spec := "chartDivides", inPlace := ["internal/bytealg.CountString", "internal/bytealg.IndexByteString", "internal/bytealg.IndexString", "internal/abi.NoEscape"], unfollowed := true, recurses := true, named := ["unicode/utf8.first", "unicode/utf8.acceptRanges", "internal/bytealg.MaxLen"], apart := false, laid := [("unicode/utf8.acceptRanges", laid_unicode_utf8_acceptRanges), ("unicode/utf8.first", laid_unicode_utf8_first)] }
def ChartDividesSaid : Prop := chartDividesRow.holds Tryz.pinned (OpenSpec.ofChange chartDividesSpec)

/-- ITS FALSE NEIGHBOUR: 'it returns false'. Refute it at one input. -/
def chartDividesWrong : ChangeSpec := { name := "chartDivides", fn := fun _ => fun
  | [d1, d2] => { results := [.lit (.bool false)], args := [d1, d2] }
  | _ => none }
def ChartDividesWrongFalsely : Prop := chartDividesRow.holds Tryz.pinned (OpenSpec.ofChange chartDividesWrong)

/-- 'flightdecklaw47.ChartTexts': WHATEVER THE INPUT: true; the input reads as it did. -/
def chartTextsSpec : ChangeSpec := { name := "chartTexts", fn := fun _ => fun
  | [d] => { results := [.lit (.bool true)], args := [d] }
  | _ => none }
def chartTextsRow : OpenClaim := { program := "ytpdncdnjkjpigaagreatdoor", sum := "bcc18597540b084f86cd19029a033bf5fdde90c7e4d5af3b202c256541a2e961", func := "flightdeck/flightdecklaw47.ChartTexts", spec := "chartTexts", inPlace := ["internal/bytealg.CountString", "internal/bytealg.IndexByteString", "internal/bytealg.IndexString", "internal/abi.NoEscape"], unfollowed := true, recurses := true, named := ["unicode/utf8.first", "unicode/utf8.acceptRanges", "internal/bytealg.MaxLen"], apart := false, laid := [("unicode/utf8.acceptRanges", laid_unicode_utf8_acceptRanges), ("unicode/utf8.first", laid_unicode_utf8_first)] }
def ChartTextsSaid : Prop := chartTextsRow.holds Tryz.pinned (OpenSpec.ofChange chartTextsSpec)

/-- ITS FALSE NEIGHBOUR: 'it returns false'. Refute it at one input. -/
def chartTextsWrong : ChangeSpec := { name := "chartTexts", fn := fun _ => fun
  | [d] => { results := [.lit (.bool false)], args := [d] }
  | _ => none }
def ChartTextsWrongFalsely : Prop := chartTextsRow.holds Tryz.pinned (OpenSpec.ofChange chartTextsWrong)

/-- 'flightdecklaw47.ChartKeeps': WHATEVER THE INPUT: true; the input reads as it did. -/
def chartKeepsSpec : ChangeSpec := { name := "chartKeeps", fn := fun _ => fun
  | [d1, d2] => { results := [.lit (.bool true)], args := [d1, d2] }
  | _ => none }
def chartKeepsRow : OpenClaim := { program := "ytpdncdnjkjpigaagreatdoor", sum := "bcc18597540b084f86cd19029a033bf5fdde90c7e4d5af3b202c256541a2e961", func := "flightdeck/flightdecklaw47.ChartKeeps", spec := "chartKeeps", inPlace := ["internal/bytealg.CountString", "internal/bytealg.IndexByteString", "internal/bytealg.IndexString", "internal/abi.NoEscape"], unfollowed := true, recurses := true, named := ["unicode/utf8.first", "unicode/utf8.acceptRanges", "internal/bytealg.MaxLen"], apart := false, laid := [("unicode/utf8.acceptRanges", laid_unicode_utf8_acceptRanges), ("unicode/utf8.first", laid_unicode_utf8_first)] }
def ChartKeepsSaid : Prop := chartKeepsRow.holds Tryz.pinned (OpenSpec.ofChange chartKeepsSpec)

/-- ITS FALSE NEIGHBOUR: 'it returns false'. Refute it at one input. -/
def chartKeepsWrong : ChangeSpec := { name := "chartKeeps", fn := fun _ => fun
  | [d1, d2] => { results := [.lit (.bool false)], args := [d1, d2] }
  | _ => none }
def ChartKeepsWrongFalsely : Prop := chartKeepsRow.holds Tryz.pinned (OpenSpec.ofChange chartKeepsWrong)

/-- 'flightdecklaw47.ChartPaths': WHATEVER THE INPUT: true; the input reads as it did. -/
def chartPathsSpec : ChangeSpec := { name := "chartPaths", fn := fun _ => fun
  | [d1, d2] => { results := [.lit (.bool true)], args := [d1, d2] }
  | _ => none }
def chartPathsRow : OpenClaim := { program := "ytpdncdnjkjpigaagreatdoor", sum := "bcc18597540b084f86cd19029a033bf5fdde90c7e4d5af3b202c256541a2e961", func := "flightdeck/flightdecklaw47.ChartPaths", spec := "chartPaths", inPlace := ["internal/bytealg.CountString", "internal/bytealg.IndexByteString", "internal/bytealg.IndexString", "internal/abi.NoEscape"], unfollowed := true, recurses := true, named := ["unicode/utf8.first", "unicode/utf8.acceptRanges", "internal/bytealg.MaxLen"], apart := false, laid := [("unicode/utf8.acceptRanges", laid_unicode_utf8_acceptRanges), ("unicode/utf8.first", laid_unicode_utf8_first)] }
def ChartPathsSaid : Prop := chartPathsRow.holds Tryz.pinned (OpenSpec.ofChange chartPathsSpec)

/-- ITS FALSE NEIGHBOUR: 'it returns false'. Refute it at one input. -/
def chartPathsWrong : ChangeSpec := { name := "chartPaths", fn := fun _ => fun
  | [d1, d2] => { results := [.lit (.bool false)], args := [d1, d2] }
  | _ => none }
def ChartPathsWrongFalsely : Prop := chartPathsRow.holds Tryz.pinned (OpenSpec.ofChange chartPathsWrong)

/- THE SECOND FORM. 'bulk': how many values and letters a reading holds, each counted each time it is reached (what is shared counts as often as it is met; a slice's spare places count too). A statement '..UptoSaid' is the law's where the arguments, and the package variables that the reading takes, are together of bulk at most 1048576: NARROWER than '..Said'. Prove '..Said' where nothing that the law and all that it calls make is longer than what came in: it says more and counts as full. Else prove '..UptoSaid'. A law counts once. -/
mutual
def uptoBulk {H : Type} : DataW H → Nat
  | .lit (.string bytes) => bytes.length + 1
  | .lit _ => 1
  | .nil => 1
  | .ptr d => uptoBulk d + 1
  | .slice elems spare => uptoBulkAll elems + uptoBulkAll spare + 1
  | .agg parts => uptoBulkAll parts + 1
  | .iface _ d => uptoBulk d + 1
  | .map entries => uptoBulkEntries entries + 1
  | .held _ => 1
def uptoBulkAll {H : Type} : List (DataW H) → Nat
  | [] => 0
  | d :: r => uptoBulk d + uptoBulkAll r
def uptoBulkEntries {H : Type} : List (Lit × DataW H) → Nat
  | [] => 0
  | x :: r => uptoBulkEntry x + uptoBulkEntries r
def uptoBulkEntry {H : Type} : Lit × DataW H → Nat
  | (.string bytes, d) => bytes.length + uptoBulk d + 1
  | (_, d) => uptoBulk d + 1
 end
def uptoSmall : (H : Type) → List (DataW H) → Bool := fun _ ds => decide (uptoBulkAll ds ≤ 1048576)
def OpenSpec.upto (s : _root_.Go.ChangeSpec) : _root_.Go.OpenSpec := { _root_.Go.OpenSpec.ofChange s with cond := some uptoSmall }

/-- 'flightdecklaw47.ChartChecks', WHERE WHAT IT READS IS OF BULK AT MOST 1048576: true; the input reads as it did. -/
def chartChecksUptoRow : OpenClaim := { program := "ytpdncdnjkjpigaagreatdoor", sum := "bcc18597540b084f86cd19029a033bf5fdde90c7e4d5af3b202c256541a2e961", func := "flightdeck/flightdecklaw47.ChartChecks", spec := "chartChecks", inPlace := ["internal/bytealg.CountString", "internal/bytealg.IndexByteString", "internal/bytealg.IndexString", "internal/abi.NoEscape"], unfollowed := true, recurses := true, named := ["unicode/utf8.first", "unicode/utf8.acceptRanges", "internal/bytealg.MaxLen"], apart := false, laid := [("unicode/utf8.acceptRanges", laid_unicode_utf8_acceptRanges), ("unicode/utf8.first", laid_unicode_utf8_first)], narrowed := true }
def ChartChecksUptoSaid : Prop := chartChecksUptoRow.holds Tryz.pinned (OpenSpec.upto chartChecksSpec)

/-- 'flightdecklaw47.ChartEnables', WHERE WHAT IT READS IS OF BULK AT MOST 1048576: true; the input reads as it did. -/
def chartEnablesUptoRow : OpenClaim := { program := "ytpdncdnjkjpigaagreatdoor", sum := "bcc18597540b084f86cd19029a033bf5fdde90c7e4d5af3b202c256541a2e961", func := "flightdeck/flightdecklaw47.ChartEnables", spec := "chartEnables", inPlace := ["internal/bytealg.CountString", "internal/bytealg.IndexByteString", "internal/bytealg.IndexString", "internal/abi.NoEscape"], unfollowed := true, recurses := true, named := ["unicode/utf8.first", "unicode/utf8.acceptRanges", "internal/bytealg.MaxLen"], apart := false, laid := [("unicode/utf8.acceptRanges", laid_unicode_utf8_acceptRanges), ("unicode/utf8.first", laid_unicode_utf8_first)], narrowed := true }
def ChartEnablesUptoSaid : Prop := chartEnablesUptoRow.holds Tryz.pinned (OpenSpec.upto chartEnablesSpec)

/-- 'flightdecklaw47.ChartStarts', WHERE WHAT IT READS IS OF BULK AT MOST 1048576: true; the input reads as it did. -/
def chartStartsUptoRow : OpenClaim := { program := "ytpdncdnjkjpigaagreatdoor", sum := "bcc18597540b084f86cd19029a033bf5fdde90c7e4d5af3b202c256541a2e961", func := "flightdeck/flightdecklaw47.ChartStarts", spec := "chartStarts", inPlace := ["internal/bytealg.CountString", "internal/bytealg.IndexByteString", "internal/bytealg.IndexString", "internal/abi.NoEscape"], unfollowed := true, recurses := true, named := ["unicode/utf8.first", "unicode/utf8.acceptRanges", "internal/bytealg.MaxLen"], apart := false, laid := [("unicode/utf8.acceptRanges", laid_unicode_utf8_acceptRanges), ("unicode/utf8.first", laid_unicode_utf8_first)], narrowed := true }
def ChartStartsUptoSaid : Prop := chartStartsUptoRow.holds Tryz.pinned (OpenSpec.upto chartStartsSpec)

/-- 'flightdecklaw47.ChartFires', WHERE WHAT IT READS IS OF BULK AT MOST 1048576: true; the input reads as it did. -/
def chartFiresUptoRow : OpenClaim := { program := "ytpdncdnjkjpigaagreatdoor", sum := "bcc18597540b084f86cd19029a033bf5fdde90c7e4d5af3b202c256541a2e961", func := "flightdeck/flightdecklaw47.ChartFires", spec := "chartFires", inPlace := ["internal/bytealg.CountString", "internal/bytealg.IndexByteString", "internal/bytealg.IndexString", "internal/abi.NoEscape"], unfollowed := true, recurses := true, named := ["unicode/utf8.first", "unicode/utf8.acceptRanges", "internal/bytealg.MaxLen"], apart := false, laid := [("unicode/utf8.acceptRanges", laid_unicode_utf8_acceptRanges), ("unicode/utf8.first", laid_unicode_utf8_first)], narrowed := true }
def ChartFiresUptoSaid : Prop := chartFiresUptoRow.holds Tryz.pinned (OpenSpec.upto chartFiresSpec)

/-- 'flightdecklaw47.ChartSteps', WHERE WHAT IT READS IS OF BULK AT MOST 1048576: true; the input reads as it did. -/
def chartStepsUptoRow : OpenClaim := { program := "ytpdncdnjkjpigaagreatdoor", sum := "bcc18597540b084f86cd19029a033bf5fdde90c7e4d5af3b202c256541a2e961", func := "flightdeck/flightdecklaw47.ChartSteps", spec := "chartSteps", inPlace := ["internal/bytealg.CountString", "internal/bytealg.IndexByteString", "internal/bytealg.IndexString", "internal/abi.NoEscape"], unfollowed := true, recurses := true, named := ["unicode/utf8.first", "unicode/utf8.acceptRanges", "internal/bytealg.MaxLen"], apart := false, laid := [("unicode/utf8.acceptRanges", laid_unicode_utf8_acceptRanges), ("unicode/utf8.first", laid_unicode_utf8_first)], narrowed := true }
def ChartStepsUptoSaid : Prop := chartStepsUptoRow.holds Tryz.pinned (OpenSpec.upto chartStepsSpec)

/-- 'flightdecklaw47.ChartRuns', WHERE WHAT IT READS IS OF BULK AT MOST 1048576: true; the input reads as it did. -/
def chartRunsUptoRow : OpenClaim := { program := "ytpdncdnjkjpigaagreatdoor", sum := "bcc18597540b084f86cd19029a033bf5fdde90c7e4d5af3b202c256541a2e961", func := "flightdeck/flightdecklaw47.ChartRuns", spec := "chartRuns", inPlace := ["internal/bytealg.CountString", "internal/bytealg.IndexByteString", "internal/bytealg.IndexString", "internal/abi.NoEscape"], unfollowed := true, recurses := true, named := ["unicode/utf8.first", "unicode/utf8.acceptRanges", "internal/bytealg.MaxLen"], apart := false, laid := [("unicode/utf8.acceptRanges", laid_unicode_utf8_acceptRanges), ("unicode/utf8.first", laid_unicode_utf8_first)], narrowed := true }
def ChartRunsUptoSaid : Prop := chartRunsUptoRow.holds Tryz.pinned (OpenSpec.upto chartRunsSpec)

/-- 'flightdecklaw47.ChartDivides', WHERE WHAT IT READS IS OF BULK AT MOST 1048576: true; the input reads as it did. -/
def chartDividesUptoRow : OpenClaim := { program := "ytpdncdnjkjpigaagreatdoor", sum := "bcc18597540b084f86cd19029a033bf5fdde90c7e4d5af3b202c256541a2e961", func := "flightdeck/flightdecklaw47.ChartDivides", spec := "chartDivides", inPlace := ["internal/bytealg.CountString", "internal/bytealg.IndexByteString", "internal/bytealg.IndexString", "internal/abi.NoEscape"], unfollowed := true, recurses := true, named := ["unicode/utf8.first", "unicode/utf8.acceptRanges", "internal/bytealg.MaxLen"], apart := false, laid := [("unicode/utf8.acceptRanges", laid_unicode_utf8_acceptRanges), ("unicode/utf8.first", laid_unicode_utf8_first)], narrowed := true }
def ChartDividesUptoSaid : Prop := chartDividesUptoRow.holds Tryz.pinned (OpenSpec.upto chartDividesSpec)

/-- 'flightdecklaw47.ChartTexts', WHERE WHAT IT READS IS OF BULK AT MOST 1048576: true; the input reads as it did. -/
def chartTextsUptoRow : OpenClaim := { program := "ytpdncdnjkjpigaagreatdoor", sum := "bcc18597540b084f86cd19029a033bf5fdde90c7e4d5af3b202c256541a2e961", func := "flightdeck/flightdecklaw47.ChartTexts", spec := "chartTexts", inPlace := ["internal/bytealg.CountString", "internal/bytealg.IndexByteString", "internal/bytealg.IndexString", "internal/abi.NoEscape"], unfollowed := true, recurses := true, named := ["unicode/utf8.first", "unicode/utf8.acceptRanges", "internal/bytealg.MaxLen"], apart := false, laid := [("unicode/utf8.acceptRanges", laid_unicode_utf8_acceptRanges), ("unicode/utf8.first", laid_unicode_utf8_first)], narrowed := true }
def ChartTextsUptoSaid : Prop := chartTextsUptoRow.holds Tryz.pinned (OpenSpec.upto chartTextsSpec)

/-- 'flightdecklaw47.ChartKeeps', WHERE WHAT IT READS IS OF BULK AT MOST 1048576: true; the input reads as it did. -/
def chartKeepsUptoRow : OpenClaim := { program := "ytpdncdnjkjpigaagreatdoor", sum := "bcc18597540b084f86cd19029a033bf5fdde90c7e4d5af3b202c256541a2e961", func := "flightdeck/flightdecklaw47.ChartKeeps", spec := "chartKeeps", inPlace := ["internal/bytealg.CountString", "internal/bytealg.IndexByteString", "internal/bytealg.IndexString", "internal/abi.NoEscape"], unfollowed := true, recurses := true, named := ["unicode/utf8.first", "unicode/utf8.acceptRanges", "internal/bytealg.MaxLen"], apart := false, laid := [("unicode/utf8.acceptRanges", laid_unicode_utf8_acceptRanges), ("unicode/utf8.first", laid_unicode_utf8_first)], narrowed := true }
def ChartKeepsUptoSaid : Prop := chartKeepsUptoRow.holds Tryz.pinned (OpenSpec.upto chartKeepsSpec)

/-- 'flightdecklaw47.ChartPaths', WHERE WHAT IT READS IS OF BULK AT MOST 1048576: true; the input reads as it did. -/
def chartPathsUptoRow : OpenClaim := { program := "ytpdncdnjkjpigaagreatdoor", sum := "bcc18597540b084f86cd19029a033bf5fdde90c7e4d5af3b202c256541a2e961", func := "flightdeck/flightdecklaw47.ChartPaths", spec := "chartPaths", inPlace := ["internal/bytealg.CountString", "internal/bytealg.IndexByteString", "internal/bytealg.IndexString", "internal/abi.NoEscape"], unfollowed := true, recurses := true, named := ["unicode/utf8.first", "unicode/utf8.acceptRanges", "internal/bytealg.MaxLen"], apart := false, laid := [("unicode/utf8.acceptRanges", laid_unicode_utf8_acceptRanges), ("unicode/utf8.first", laid_unicode_utf8_first)], narrowed := true }
def ChartPathsUptoSaid : Prop := chartPathsUptoRow.holds Tryz.pinned (OpenSpec.upto chartPathsSpec)

end Rows
end Go.Proofs.YtpdncdnjkjpigaaGreatDoor

/-
  No cell of these rows narrows 'for every input' (looked for: loops, veiled, ifaces, maps, wideKeys, modest, calm, conditions, laid).
  DERIVED. THE GIVEN ROWS OF THIS SEAT. 6 by the template 'for every input the law returns true; each argument reads behind the call as it read before'; 0 by the template 'total and deterministic' (their statements: YtjghflomfbehkaaTotals.lean).
  GIVEN WITH THE SEED: the statements are not yours to turn. If you find one false, say at which input.
  Laid BY PROGRAM, IN A SANDBOX (cutbox-rows.mjs): the forced cells as the released guide's own fill.sh prints them over the translation 8209058f813d29dc… (all of the seat's roots in one cut). By AI agents, Wed Nov 11 2026. No macro, syntax, notation, axiom, sorry.
-/
import Derived.Test.YtjghflomfbehkaaChecked
import GoSem.Claim
import GoSem.ClaimJoined
import GoSem.ClaimMapViews
import Derived.JoinedTies
import Derived.KernelRfl
namespace Go.Proofs.Ytjghflomfbehkaa
/- THE CELL 'sum', in the pinned program and in every row, IS THE sha256 OF THE DUMP (.gsa) THAT YtjghflomfbehkaaProg.lean LOADS. Nothing in Lean hashes anything: it is a label: what it is worth is what the hold of that sum in a sandbox is worth. -/
noncomputable def Try.pinned : Pinned := { name := "ytjghflomfbehkaa", sum := "8209058f813d29dc63c25dbfb8b00592a1a144ee1e3630676f8e1fc23f5ddb00", checked := Try.checked }
namespace Rows
def none {H : Type} : Left H := { results := [], args := [] }

/-- 'flightdecklaw31.PerformanceChecks': WHATEVER THE INPUT: true; the input reads as it did. -/
def performanceChecksSpec : ChangeSpec := { name := "performanceChecks", fn := fun _ => fun
  | [d] => { results := [.lit (.bool true)], args := [d] }
  | _ => none }
def performanceChecksRow : OpenClaim := { program := "ytjghflomfbehkaa", sum := "8209058f813d29dc63c25dbfb8b00592a1a144ee1e3630676f8e1fc23f5ddb00", func := "flightdeck/flightdecklaw31.PerformanceChecks", spec := "performanceChecks", named := ["math/bits.divideError", "math/bits.overflowError"], apart := false }
def PerformanceChecksSaid : Prop := performanceChecksRow.holds Try.pinned (OpenSpec.ofChange performanceChecksSpec)

/-- ITS FALSE NEIGHBOUR: 'it returns false'. Refute it at one input. -/
def performanceChecksWrong : ChangeSpec := { name := "performanceChecks", fn := fun _ => fun
  | [d] => { results := [.lit (.bool false)], args := [d] }
  | _ => none }
def PerformanceChecksWrongFalsely : Prop := performanceChecksRow.holds Try.pinned (OpenSpec.ofChange performanceChecksWrong)

/-- 'flightdecklaw31.PerformanceGains': WHATEVER THE INPUT: true; the input reads as it did. -/
def performanceGainsSpec : ChangeSpec := { name := "performanceGains", fn := fun _ => fun
  | [d1, d2] => { results := [.lit (.bool true)], args := [d1, d2] }
  | _ => none }
def performanceGainsRow : OpenClaim := { program := "ytjghflomfbehkaa", sum := "8209058f813d29dc63c25dbfb8b00592a1a144ee1e3630676f8e1fc23f5ddb00", func := "flightdeck/flightdecklaw31.PerformanceGains", spec := "performanceGains", named := ["math/bits.divideError", "math/bits.overflowError"], apart := false }
def PerformanceGainsSaid : Prop := performanceGainsRow.holds Try.pinned (OpenSpec.ofChange performanceGainsSpec)

/-- ITS FALSE NEIGHBOUR: 'it returns false'. Refute it at one input. -/
def performanceGainsWrong : ChangeSpec := { name := "performanceGains", fn := fun _ => fun
  | [d1, d2] => { results := [.lit (.bool false)], args := [d1, d2] }
  | _ => none }
def PerformanceGainsWrongFalsely : Prop := performanceGainsRow.holds Try.pinned (OpenSpec.ofChange performanceGainsWrong)

/-- 'flightdecklaw31.PerformanceSplits': WHATEVER THE INPUT: true; the input reads as it did. -/
def performanceSplitsSpec : ChangeSpec := { name := "performanceSplits", fn := fun _ => fun
  | [d1, d2, d3] => { results := [.lit (.bool true)], args := [d1, d2, d3] }
  | _ => none }
def performanceSplitsRow : OpenClaim := { program := "ytjghflomfbehkaa", sum := "8209058f813d29dc63c25dbfb8b00592a1a144ee1e3630676f8e1fc23f5ddb00", func := "flightdeck/flightdecklaw31.PerformanceSplits", spec := "performanceSplits", named := ["math/bits.divideError", "math/bits.overflowError"], apart := false }
def PerformanceSplitsSaid : Prop := performanceSplitsRow.holds Try.pinned (OpenSpec.ofChange performanceSplitsSpec)

/-- ITS FALSE NEIGHBOUR: 'it returns false'. Refute it at one input. -/
def performanceSplitsWrong : ChangeSpec := { name := "performanceSplits", fn := fun _ => fun
  | [d1, d2, d3] => { results := [.lit (.bool false)], args := [d1, d2, d3] }
  | _ => none }
def PerformanceSplitsWrongFalsely : Prop := performanceSplitsRow.holds Try.pinned (OpenSpec.ofChange performanceSplitsWrong)

/-- 'flightdecklaw31.PerformanceFlow': WHATEVER THE INPUT: true; the input reads as it did. -/
def performanceFlowSpec : ChangeSpec := { name := "performanceFlow", fn := fun _ => fun
  | [d1, d2] => { results := [.lit (.bool true)], args := [d1, d2] }
  | _ => none }
def performanceFlowRow : OpenClaim := { program := "ytjghflomfbehkaa", sum := "8209058f813d29dc63c25dbfb8b00592a1a144ee1e3630676f8e1fc23f5ddb00", func := "flightdeck/flightdecklaw31.PerformanceFlow", spec := "performanceFlow", named := ["math/bits.divideError", "math/bits.overflowError"], apart := false }
def PerformanceFlowSaid : Prop := performanceFlowRow.holds Try.pinned (OpenSpec.ofChange performanceFlowSpec)

/-- ITS FALSE NEIGHBOUR: 'it returns false'. Refute it at one input. -/
def performanceFlowWrong : ChangeSpec := { name := "performanceFlow", fn := fun _ => fun
  | [d1, d2] => { results := [.lit (.bool false)], args := [d1, d2] }
  | _ => none }
def PerformanceFlowWrongFalsely : Prop := performanceFlowRow.holds Try.pinned (OpenSpec.ofChange performanceFlowWrong)

/-- 'flightdecklaw31.PerformanceOrder': WHATEVER THE INPUT: true; the input reads as it did. -/
def performanceOrderSpec : ChangeSpec := { name := "performanceOrder", fn := fun _ => fun
  | [d1, d2] => { results := [.lit (.bool true)], args := [d1, d2] }
  | _ => none }
def performanceOrderRow : OpenClaim := { program := "ytjghflomfbehkaa", sum := "8209058f813d29dc63c25dbfb8b00592a1a144ee1e3630676f8e1fc23f5ddb00", func := "flightdeck/flightdecklaw31.PerformanceOrder", spec := "performanceOrder", named := ["math/bits.divideError", "math/bits.overflowError"], apart := false }
def PerformanceOrderSaid : Prop := performanceOrderRow.holds Try.pinned (OpenSpec.ofChange performanceOrderSpec)

/-- ITS FALSE NEIGHBOUR: 'it returns false'. Refute it at one input. -/
def performanceOrderWrong : ChangeSpec := { name := "performanceOrder", fn := fun _ => fun
  | [d1, d2] => { results := [.lit (.bool false)], args := [d1, d2] }
  | _ => none }
def PerformanceOrderWrongFalsely : Prop := performanceOrderRow.holds Try.pinned (OpenSpec.ofChange performanceOrderWrong)

/-- 'flightdecklaw31.PerformanceRates': WHATEVER THE INPUT: true; the input reads as it did. -/
def performanceRatesSpec : ChangeSpec := { name := "performanceRates", fn := fun _ => fun
  | [d1, d2, d3] => { results := [.lit (.bool true)], args := [d1, d2, d3] }
  | _ => none }
def performanceRatesRow : OpenClaim := { program := "ytjghflomfbehkaa", sum := "8209058f813d29dc63c25dbfb8b00592a1a144ee1e3630676f8e1fc23f5ddb00", func := "flightdeck/flightdecklaw31.PerformanceRates", spec := "performanceRates", named := ["math/bits.divideError", "math/bits.overflowError"], apart := false }
def PerformanceRatesSaid : Prop := performanceRatesRow.holds Try.pinned (OpenSpec.ofChange performanceRatesSpec)

/-- ITS FALSE NEIGHBOUR: 'it returns false'. Refute it at one input. -/
def performanceRatesWrong : ChangeSpec := { name := "performanceRates", fn := fun _ => fun
  | [d1, d2, d3] => { results := [.lit (.bool false)], args := [d1, d2, d3] }
  | _ => none }
def PerformanceRatesWrongFalsely : Prop := performanceRatesRow.holds Try.pinned (OpenSpec.ofChange performanceRatesWrong)

/- THE SECOND FORM. 'bulk': how many values and letters a reading holds, each counted each time it is reached (what is shared counts as often as it is met; a slice's spare places count too). A statement '..UptoSaid' is the law's where the arguments, and the package variables that the reading takes, are together of bulk at most 1048576: NARROWER than '..Said'. Prove '..Said' where nothing that the law and all that it calls make is longer than what came in: it says more and counts as full. Else prove '..UptoSaid'. A law counts once. -/
mutual
def uptoBulk {H : Type} : DataW H → Nat
  | .lit (.string bytes) => bytes.length + 1
  | .lit _ => 1
  | .nil => 1
  | .ptr d => uptoBulk d + 1
  | .slice elems spare => uptoBulkAll elems + uptoBulkAll spare + 1
  | .agg parts => uptoBulkAll parts + 1
  | .iface _ d => uptoBulk d + 1
  | .map entries => uptoBulkEntries entries + 1
  | .held _ => 1
def uptoBulkAll {H : Type} : List (DataW H) → Nat
  | [] => 0
  | d :: r => uptoBulk d + uptoBulkAll r
def uptoBulkEntries {H : Type} : List (Lit × DataW H) → Nat
  | [] => 0
  | x :: r => uptoBulkEntry x + uptoBulkEntries r
def uptoBulkEntry {H : Type} : Lit × DataW H → Nat
  | (.string bytes, d) => bytes.length + uptoBulk d + 1
  | (_, d) => uptoBulk d + 1
 end
def uptoSmall : (H : Type) → List (DataW H) → Bool := fun _ ds => decide (uptoBulkAll ds ≤ 1048576)
def OpenSpec.upto (s : _root_.Go.ChangeSpec) : _root_.Go.OpenSpec := { _root_.Go.OpenSpec.ofChange s with cond := some uptoSmall }

/-- 'flightdecklaw31.PerformanceChecks', WHERE WHAT IT READS IS OF BULK AT MOST 1048576: true; the input reads as it did. -/
def performanceChecksUptoRow : OpenClaim := { program := "ytjghflomfbehkaa", sum := "8209058f813d29dc63c25dbfb8b00592a1a144ee1e3630676f8e1fc23f5ddb00", func := "flightdeck/flightdecklaw31.PerformanceChecks", spec := "performanceChecks", named := ["math/bits.divideError", "math/bits.overflowError"], apart := false, narrowed := true }
def PerformanceChecksUptoSaid : Prop := performanceChecksUptoRow.holds Try.pinned (OpenSpec.upto performanceChecksSpec)

/-- 'flightdecklaw31.PerformanceGains', WHERE WHAT IT READS IS OF BULK AT MOST 1048576: true; the input reads as it did. -/
def performanceGainsUptoRow : OpenClaim := { program := "ytjghflomfbehkaa", sum := "8209058f813d29dc63c25dbfb8b00592a1a144ee1e3630676f8e1fc23f5ddb00", func := "flightdeck/flightdecklaw31.PerformanceGains", spec := "performanceGains", named := ["math/bits.divideError", "math/bits.overflowError"], apart := false, narrowed := true }
def PerformanceGainsUptoSaid : Prop := performanceGainsUptoRow.holds Try.pinned (OpenSpec.upto performanceGainsSpec)

/-- 'flightdecklaw31.PerformanceSplits', WHERE WHAT IT READS IS OF BULK AT MOST 1048576: true; the input reads as it did. -/
def performanceSplitsUptoRow : OpenClaim := { program := "ytjghflomfbehkaa", sum := "8209058f813d29dc63c25dbfb8b00592a1a144ee1e3630676f8e1fc23f5ddb00", func := "flightdeck/flightdecklaw31.PerformanceSplits", spec := "performanceSplits", named := ["math/bits.divideError", "math/bits.overflowError"], apart := false, narrowed := true }
def PerformanceSplitsUptoSaid : Prop := performanceSplitsUptoRow.holds Try.pinned (OpenSpec.upto performanceSplitsSpec)

/-- 'flightdecklaw31.PerformanceFlow', WHERE WHAT IT READS IS OF BULK AT MOST 1048576: true; the input reads as it did. -/
def performanceFlowUptoRow : OpenClaim := { program := "ytjghflomfbehkaa", sum := "8209058f813d29dc63c25dbfb8b00592a1a144ee1e3630676f8e1fc23f5ddb00", func := "flightdeck/flightdecklaw31.PerformanceFlow", spec := "performanceFlow", named := ["math/bits.divideError", "math/bits.overflowError"], apart := false, narrowed := true }
def PerformanceFlowUptoSaid : Prop := performanceFlowUptoRow.holds Try.pinned (OpenSpec.upto performanceFlowSpec)

/-- 'flightdecklaw31.PerformanceOrder', WHERE WHAT IT READS IS OF BULK AT MOST 1048576: true; the input reads as it did. -/
def performanceOrderUptoRow : OpenClaim := { program := "ytjghflomfbehkaa", sum := "8209058f813d29dc63c25dbfb8b00592a1a144ee1e3630676f8e1fc23f5ddb00", func := "flightdeck/flightdecklaw31.PerformanceOrder", spec := "performanceOrder", named := ["math/bits.divideError", "math/bits.overflowError"], apart := false, narrowed := true }
def PerformanceOrderUptoSaid : Prop := performanceOrderUptoRow.holds Try.pinned (OpenSpec.upto performanceOrderSpec)

/-- 'flightdecklaw31.PerformanceRates', WHERE WHAT IT READS IS OF BULK AT MOST 1048576: true; the input reads as it did. -/
def performanceRatesUptoRow : OpenClaim := { program := "ytjghflomfbehkaa", sum := "8209058f813d29dc63c25dbfb8b00592a1a144ee1e3630676f8e1fc23f5ddb00", func := "flightdeck/flightdecklaw31.PerformanceRates", spec := "performanceRates", named := ["math/bits.divideError", "math/bits.overflowError"], apart := false, narrowed := true }
def PerformanceRatesUptoSaid : Prop := performanceRatesUptoRow.holds Try.pinned (OpenSpec.upto performanceRatesSpec)

end Rows
end Go.Proofs.Ytjghflomfbehkaa

/-
  No cell of these rows narrows 'for every input' (looked for: loops, veiled, ifaces, maps, wideKeys, modest, calm, conditions, laid).
  DERIVED. THE GIVEN ROWS OF THIS SEAT. 7 by the template 'for every input the law returns true; each argument reads behind the call as it read before'; 0 by the template 'total and deterministic' (their statements: YtfgeoeipnidfhaaTotals.lean).
  GIVEN WITH THE SEED: the statements are not yours to turn. If you find one false, say at which input.
  Laid BY PROGRAM, IN A SANDBOX (cutbox-rows.mjs): the forced cells as the released guide's own fill.sh prints them over the translation 599a0aeab8c07b1e… (all of the seat's roots in one cut). By AI agents, Wed Nov 11 2026. No macro, syntax, notation, axiom, sorry.
-/
import Derived.Test.YtfgeoeipnidfhaaChecked
import GoSem.Claim
import GoSem.ClaimJoined
import GoSem.ClaimMapViews
import Derived.JoinedTies
import Derived.KernelRfl
namespace Go.Proofs.Ytfgeoeipnidfhaa
/- THE CELL 'sum', in the pinned program and in every row, IS THE sha256 OF THE DUMP (.gsa) THAT YtfgeoeipnidfhaaProg.lean LOADS. Nothing in Lean hashes anything: it is a label: what it is worth is what the hold of that sum in a sandbox is worth. -/
noncomputable def Try.pinned : Pinned := { name := "ytfgeoeipnidfhaa", sum := "599a0aeab8c07b1e4338de9f42fe9aff32da5b53d20958fb053ceac17d66388a", checked := Try.checked }
namespace Rows
def none {H : Type} : Left H := { results := [], args := [] }

/-- 'flightdecklaw36.WindgridAt': WHATEVER THE INPUT: true; the input reads as it did. -/
def windgridAtSpec : ChangeSpec := { name := "windgridAt", fn := fun _ => fun
  | [d1, d2, d3] => { results := [.lit (.bool true)], args := [d1, d2, d3] }
  | _ => none }
def windgridAtRow : OpenClaim := { program := "ytfgeoeipnidfhaa", sum := "599a0aeab8c07b1e4338de9f42fe9aff32da5b53d20958fb053ceac17d66388a", func := "flightdeck/flightdecklaw36.WindgridAt", spec := "windgridAt", unfollowed := true, recurses := true, named := ["math/bits.divideError", "math/bits.overflowError"], apart := false }
def WindgridAtSaid : Prop := windgridAtRow.holds Try.pinned (OpenSpec.ofChange windgridAtSpec)

/-- ITS FALSE NEIGHBOUR: 'it returns false'. Refute it at one input. -/
def windgridAtWrong : ChangeSpec := { name := "windgridAt", fn := fun _ => fun
  | [d1, d2, d3] => { results := [.lit (.bool false)], args := [d1, d2, d3] }
  | _ => none }
def WindgridAtWrongFalsely : Prop := windgridAtRow.holds Try.pinned (OpenSpec.ofChange windgridAtWrong)

/-- 'flightdecklaw36.WindgridHull': WHATEVER THE INPUT: true; the input reads as it did. -/
def windgridHullSpec : ChangeSpec := { name := "windgridHull", fn := fun _ => fun
  | [d1, d2] => { results := [.lit (.bool true)], args := [d1, d2] }
  | _ => none }
def windgridHullRow : OpenClaim := { program := "ytfgeoeipnidfhaa", sum := "599a0aeab8c07b1e4338de9f42fe9aff32da5b53d20958fb053ceac17d66388a", func := "flightdeck/flightdecklaw36.WindgridHull", spec := "windgridHull", unfollowed := true, recurses := true, named := ["math/bits.divideError", "math/bits.overflowError"], apart := false }
def WindgridHullSaid : Prop := windgridHullRow.holds Try.pinned (OpenSpec.ofChange windgridHullSpec)

/-- ITS FALSE NEIGHBOUR: 'it returns false'. Refute it at one input. -/
def windgridHullWrong : ChangeSpec := { name := "windgridHull", fn := fun _ => fun
  | [d1, d2] => { results := [.lit (.bool false)], args := [d1, d2] }
  | _ => none }
def WindgridHullWrongFalsely : Prop := windgridHullRow.holds Try.pinned (OpenSpec.ofChange windgridHullWrong)

/-- 'flightdecklaw36.WindgridEncloses': WHATEVER THE INPUT: true; the input reads as it did. -/
def windgridEnclosesSpec : ChangeSpec := { name := "windgridEncloses", fn := fun _ => fun
  | [d1, d2, d3] => { results := [.lit (.bool true)], args := [d1, d2, d3] }
  | _ => none }
def windgridEnclosesRow : OpenClaim := { program := "ytfgeoeipnidfhaa", sum := "599a0aeab8c07b1e4338de9f42fe9aff32da5b53d20958fb053ceac17d66388a", func := "flightdeck/flightdecklaw36.WindgridEncloses", spec := "windgridEncloses", unfollowed := true, recurses := true, named := ["math/bits.divideError", "math/bits.overflowError"], apart := false }
def WindgridEnclosesSaid : Prop := windgridEnclosesRow.holds Try.pinned (OpenSpec.ofChange windgridEnclosesSpec)

/-- ITS FALSE NEIGHBOUR: 'it returns false'. Refute it at one input. -/
def windgridEnclosesWrong : ChangeSpec := { name := "windgridEncloses", fn := fun _ => fun
  | [d1, d2, d3] => { results := [.lit (.bool false)], args := [d1, d2, d3] }
  | _ => none }
def WindgridEnclosesWrongFalsely : Prop := windgridEnclosesRow.holds Try.pinned (OpenSpec.ofChange windgridEnclosesWrong)

/-- 'flightdecklaw36.WindgridPoints': WHATEVER THE INPUT: true; the input reads as it did. -/
def windgridPointsSpec : ChangeSpec := { name := "windgridPoints", fn := fun _ => fun
  | [d1, d2] => { results := [.lit (.bool true)], args := [d1, d2] }
  | _ => none }
def windgridPointsRow : OpenClaim := { program := "ytfgeoeipnidfhaa", sum := "599a0aeab8c07b1e4338de9f42fe9aff32da5b53d20958fb053ceac17d66388a", func := "flightdeck/flightdecklaw36.WindgridPoints", spec := "windgridPoints", unfollowed := true, recurses := true, named := ["math/bits.divideError", "math/bits.overflowError"], apart := false }
def WindgridPointsSaid : Prop := windgridPointsRow.holds Try.pinned (OpenSpec.ofChange windgridPointsSpec)

/-- ITS FALSE NEIGHBOUR: 'it returns false'. Refute it at one input. -/
def windgridPointsWrong : ChangeSpec := { name := "windgridPoints", fn := fun _ => fun
  | [d1, d2] => { results := [.lit (.bool false)], args := [d1, d2] }
  | _ => none }
def WindgridPointsWrongFalsely : Prop := windgridPointsRow.holds Try.pinned (OpenSpec.ofChange windgridPointsWrong)

/-- 'flightdecklaw36.WindgridOutside': WHATEVER THE INPUT: true; the input reads as it did. -/
def windgridOutsideSpec : ChangeSpec := { name := "windgridOutside", fn := fun _ => fun
  | [d1, d2, d3] => { results := [.lit (.bool true)], args := [d1, d2, d3] }
  | _ => none }
def windgridOutsideRow : OpenClaim := { program := "ytfgeoeipnidfhaa", sum := "599a0aeab8c07b1e4338de9f42fe9aff32da5b53d20958fb053ceac17d66388a", func := "flightdeck/flightdecklaw36.WindgridOutside", spec := "windgridOutside", unfollowed := true, recurses := true, named := ["math/bits.divideError", "math/bits.overflowError"], apart := false }
def WindgridOutsideSaid : Prop := windgridOutsideRow.holds Try.pinned (OpenSpec.ofChange windgridOutsideSpec)

/-- ITS FALSE NEIGHBOUR: 'it returns false'. Refute it at one input. -/
def windgridOutsideWrong : ChangeSpec := { name := "windgridOutside", fn := fun _ => fun
  | [d1, d2, d3] => { results := [.lit (.bool false)], args := [d1, d2, d3] }
  | _ => none }
def WindgridOutsideWrongFalsely : Prop := windgridOutsideRow.holds Try.pinned (OpenSpec.ofChange windgridOutsideWrong)

/-- 'flightdecklaw36.WindgridGrows': WHATEVER THE INPUT: true; the input reads as it did. -/
def windgridGrowsSpec : ChangeSpec := { name := "windgridGrows", fn := fun _ => fun
  | [d1, d2, d3] => { results := [.lit (.bool true)], args := [d1, d2, d3] }
  | _ => none }
def windgridGrowsRow : OpenClaim := { program := "ytfgeoeipnidfhaa", sum := "599a0aeab8c07b1e4338de9f42fe9aff32da5b53d20958fb053ceac17d66388a", func := "flightdeck/flightdecklaw36.WindgridGrows", spec := "windgridGrows", unfollowed := true, recurses := true, named := ["math/bits.divideError", "math/bits.overflowError"], apart := false }
def WindgridGrowsSaid : Prop := windgridGrowsRow.holds Try.pinned (OpenSpec.ofChange windgridGrowsSpec)

/-- ITS FALSE NEIGHBOUR: 'it returns false'. Refute it at one input. -/
def windgridGrowsWrong : ChangeSpec := { name := "windgridGrows", fn := fun _ => fun
  | [d1, d2, d3] => { results := [.lit (.bool false)], args := [d1, d2, d3] }
  | _ => none }
def WindgridGrowsWrongFalsely : Prop := windgridGrowsRow.holds Try.pinned (OpenSpec.ofChange windgridGrowsWrong)

/-- 'flightdecklaw36.WindgridChecks': WHATEVER THE INPUT: true; the input reads as it did. -/
def windgridChecksSpec : ChangeSpec := { name := "windgridChecks", fn := fun _ => fun
  | [d1, d2] => { results := [.lit (.bool true)], args := [d1, d2] }
  | _ => none }
def windgridChecksRow : OpenClaim := { program := "ytfgeoeipnidfhaa", sum := "599a0aeab8c07b1e4338de9f42fe9aff32da5b53d20958fb053ceac17d66388a", func := "flightdeck/flightdecklaw36.WindgridChecks", spec := "windgridChecks", unfollowed := true, recurses := true, named := ["math/bits.divideError", "math/bits.overflowError"], apart := false }
def WindgridChecksSaid : Prop := windgridChecksRow.holds Try.pinned (OpenSpec.ofChange windgridChecksSpec)

/-- ITS FALSE NEIGHBOUR: 'it returns false'. Refute it at one input. -/
def windgridChecksWrong : ChangeSpec := { name := "windgridChecks", fn := fun _ => fun
  | [d1, d2] => { results := [.lit (.bool false)], args := [d1, d2] }
  | _ => none }
def WindgridChecksWrongFalsely : Prop := windgridChecksRow.holds Try.pinned (OpenSpec.ofChange windgridChecksWrong)

/- THE SECOND FORM. 'bulk': how many values and letters a reading holds, each counted each time it is reached (what is shared counts as often as it is met; a slice's spare places count too). A statement '..UptoSaid' is the law's where the arguments, and the package variables that the reading takes, are together of bulk at most 1048576: NARROWER than '..Said'. Prove '..Said' where nothing that the law and all that it calls make is longer than what came in: it says more and counts as full. Else prove '..UptoSaid'. A law counts once. -/
mutual
def uptoBulk {H : Type} : DataW H → Nat
  | .lit (.string bytes) => bytes.length + 1
  | .lit _ => 1
  | .nil => 1
  | .ptr d => uptoBulk d + 1
  | .slice elems spare => uptoBulkAll elems + uptoBulkAll spare + 1
  | .agg parts => uptoBulkAll parts + 1
  | .iface _ d => uptoBulk d + 1
  | .map entries => uptoBulkEntries entries + 1
  | .held _ => 1
def uptoBulkAll {H : Type} : List (DataW H) → Nat
  | [] => 0
  | d :: r => uptoBulk d + uptoBulkAll r
def uptoBulkEntries {H : Type} : List (Lit × DataW H) → Nat
  | [] => 0
  | x :: r => uptoBulkEntry x + uptoBulkEntries r
def uptoBulkEntry {H : Type} : Lit × DataW H → Nat
  | (.string bytes, d) => bytes.length + uptoBulk d + 1
  | (_, d) => uptoBulk d + 1
 end
def uptoSmall : (H : Type) → List (DataW H) → Bool := fun _ ds => decide (uptoBulkAll ds ≤ 1048576)
def OpenSpec.upto (s : _root_.Go.ChangeSpec) : _root_.Go.OpenSpec := { _root_.Go.OpenSpec.ofChange s with cond := some uptoSmall }

/-- 'flightdecklaw36.WindgridAt', WHERE WHAT IT READS IS OF BULK AT MOST 1048576: true; the input reads as it did. -/
def windgridAtUptoRow : OpenClaim := { program := "ytfgeoeipnidfhaa", sum := "599a0aeab8c07b1e4338de9f42fe9aff32da5b53d20958fb053ceac17d66388a", func := "flightdeck/flightdecklaw36.WindgridAt", spec := "windgridAt", unfollowed := true, recurses := true, named := ["math/bits.divideError", "math/bits.overflowError"], apart := false, narrowed := true }
def WindgridAtUptoSaid : Prop := windgridAtUptoRow.holds Try.pinned (OpenSpec.upto windgridAtSpec)

/-- 'flightdecklaw36.WindgridHull', WHERE WHAT IT READS IS OF BULK AT MOST 1048576: true; the input reads as it did. -/
def windgridHullUptoRow : OpenClaim := { program := "ytfgeoeipnidfhaa", sum := "599a0aeab8c07b1e4338de9f42fe9aff32da5b53d20958fb053ceac17d66388a", func := "flightdeck/flightdecklaw36.WindgridHull", spec := "windgridHull", unfollowed := true, recurses := true, named := ["math/bits.divideError", "math/bits.overflowError"], apart := false, narrowed := true }
def WindgridHullUptoSaid : Prop := windgridHullUptoRow.holds Try.pinned (OpenSpec.upto windgridHullSpec)

/-- 'flightdecklaw36.WindgridEncloses', WHERE WHAT IT READS IS OF BULK AT MOST 1048576: true; the input reads as it did. -/
def windgridEnclosesUptoRow : OpenClaim := { program := "ytfgeoeipnidfhaa", sum := "599a0aeab8c07b1e4338de9f42fe9aff32da5b53d20958fb053ceac17d66388a", func := "flightdeck/flightdecklaw36.WindgridEncloses", spec := "windgridEncloses", unfollowed := true, recurses := true, named := ["math/bits.divideError", "math/bits.overflowError"], apart := false, narrowed := true }
def WindgridEnclosesUptoSaid : Prop := windgridEnclosesUptoRow.holds Try.pinned (OpenSpec.upto windgridEnclosesSpec)

/-- 'flightdecklaw36.WindgridPoints', WHERE WHAT IT READS IS OF BULK AT MOST 1048576: true; the input reads as it did. -/
def windgridPointsUptoRow : OpenClaim := { program := "ytfgeoeipnidfhaa", sum := "599a0aeab8c07b1e4338de9f42fe9aff32da5b53d20958fb053ceac17d66388a", func := "flightdeck/flightdecklaw36.WindgridPoints", spec := "windgridPoints", unfollowed := true, recurses := true, named := ["math/bits.divideError", "math/bits.overflowError"], apart := false, narrowed := true }
def WindgridPointsUptoSaid : Prop := windgridPointsUptoRow.holds Try.pinned (OpenSpec.upto windgridPointsSpec)

/-- 'flightdecklaw36.WindgridOutside', WHERE WHAT IT READS IS OF BULK AT MOST 1048576: true; the input reads as it did. -/
def windgridOutsideUptoRow : OpenClaim := { program := "ytfgeoeipnidfhaa", sum := "599a0aeab8c07b1e4338de9f42fe9aff32da5b53d20958fb053ceac17d66388a", func := "flightdeck/flightdecklaw36.WindgridOutside", spec := "windgridOutside", unfollowed := true, recurses := true, named := ["math/bits.divideError", "math/bits.overflowError"], apart := false, narrowed := true }
def WindgridOutsideUptoSaid : Prop := windgridOutsideUptoRow.holds Try.pinned (OpenSpec.upto windgridOutsideSpec)

/-- 'flightdecklaw36.WindgridGrows', WHERE WHAT IT READS IS OF BULK AT MOST 1048576: true; the input reads as it did. -/
def windgridGrowsUptoRow : OpenClaim := { program := "ytfgeoeipnidfhaa", sum := "599a0aeab8c07b1e4338de9f42fe9aff32da5b53d20958fb053ceac17d66388a", func := "flightdeck/flightdecklaw36.WindgridGrows", spec := "windgridGrows", unfollowed := true, recurses := true, named := ["math/bits.divideError", "math/bits.overflowError"], apart := false, narrowed := true }
def WindgridGrowsUptoSaid : Prop := windgridGrowsUptoRow.holds Try.pinned (OpenSpec.upto windgridGrowsSpec)

/-- 'flightdecklaw36.WindgridChecks', WHERE WHAT IT READS IS OF BULK AT MOST 1048576: true; the input reads as it did. -/
def windgridChecksUptoRow : OpenClaim := { program := "ytfgeoeipnidfhaa", sum := "599a0aeab8c07b1e4338de9f42fe9aff32da5b53d20958fb053ceac17d66388a", func := "flightdeck/flightdecklaw36.WindgridChecks", spec := "windgridChecks", unfollowed := true, recurses := true, named := ["math/bits.divideError", "math/bits.overflowError"], apart := false, narrowed := true }
def WindgridChecksUptoSaid : Prop := windgridChecksUptoRow.holds Try.pinned (OpenSpec.upto windgridChecksSpec)

end Rows
end Go.Proofs.Ytfgeoeipnidfhaa

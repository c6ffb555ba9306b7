/-
  No cell of these rows narrows 'for every input' (looked for: loops, veiled, ifaces, maps, wideKeys, modest, calm, conditions, laid).
  DERIVED. THE GIVEN ROWS OF THIS SEAT. 10 by the template 'for every input the law returns true; each argument reads behind the call as it read before'; 0 by the template 'total and deterministic' (their statements: YtdecfjdmcfnbkaaTotals.lean).
  GIVEN WITH THE SEED: the statements are not yours to turn. If you find one false, say at which input.
  Laid BY PROGRAM, IN A SANDBOX (cutbox-rows.mjs): the forced cells as the released guide's own fill.sh prints them over the translation dd010ed4c06b0bcb… (all of the seat's roots in one cut). By AI agents, Wed Nov 11 2026. No macro, syntax, notation, axiom, sorry.
-/
import Derived.Test.YtdecfjdmcfnbkaaChecked
import GoSem.Claim
import GoSem.ClaimJoined
import GoSem.ClaimMapViews
import Derived.JoinedTies
import Derived.KernelRfl
namespace Go.Proofs.Ytdecfjdmcfnbkaa
/- THE CELL 'sum', in the pinned program and in every row, IS THE sha256 OF THE DUMP (.gsa) THAT YtdecfjdmcfnbkaaProg.lean LOADS. Nothing in Lean hashes anything: it is a label: what it is worth is what the hold of that sum in a sandbox is worth. -/
noncomputable def Try.pinned : Pinned := { name := "ytdecfjdmcfnbkaa", sum := "dd010ed4c06b0bcbed8ff5e9bdda38ecf6266fda1a1a83df3b1e286ac929a969", checked := Try.checked }
namespace Rows
def none {H : Type} : Left H := { results := [], args := [] }

/-- 'flightdecklaw06.CrcSums': WHATEVER THE INPUT: true; the input reads as it did. -/
def crcSumsSpec : ChangeSpec := { name := "crcSums", fn := fun _ => fun
  | [d] => { results := [.lit (.bool true)], args := [d] }
  | _ => none }
def crcSumsRow : OpenClaim := { program := "ytdecfjdmcfnbkaa", sum := "dd010ed4c06b0bcbed8ff5e9bdda38ecf6266fda1a1a83df3b1e286ac929a969", func := "flightdeck/flightdecklaw06.CrcSums", spec := "crcSums", apart := false }
def CrcSumsSaid : Prop := crcSumsRow.holds Try.pinned (OpenSpec.ofChange crcSumsSpec)

/-- ITS FALSE NEIGHBOUR: 'it returns false'. Refute it at one input. -/
def crcSumsWrong : ChangeSpec := { name := "crcSums", fn := fun _ => fun
  | [d] => { results := [.lit (.bool false)], args := [d] }
  | _ => none }
def CrcSumsWrongFalsely : Prop := crcSumsRow.holds Try.pinned (OpenSpec.ofChange crcSumsWrong)

/-- 'flightdecklaw06.CrcUpdates': WHATEVER THE INPUT: true; the input reads as it did. -/
def crcUpdatesSpec : ChangeSpec := { name := "crcUpdates", fn := fun _ => fun
  | [d1, d2, d3] => { results := [.lit (.bool true)], args := [d1, d2, d3] }
  | _ => none }
def crcUpdatesRow : OpenClaim := { program := "ytdecfjdmcfnbkaa", sum := "dd010ed4c06b0bcbed8ff5e9bdda38ecf6266fda1a1a83df3b1e286ac929a969", func := "flightdeck/flightdecklaw06.CrcUpdates", spec := "crcUpdates", apart := false }
def CrcUpdatesSaid : Prop := crcUpdatesRow.holds Try.pinned (OpenSpec.ofChange crcUpdatesSpec)

/-- ITS FALSE NEIGHBOUR: 'it returns false'. Refute it at one input. -/
def crcUpdatesWrong : ChangeSpec := { name := "crcUpdates", fn := fun _ => fun
  | [d1, d2, d3] => { results := [.lit (.bool false)], args := [d1, d2, d3] }
  | _ => none }
def CrcUpdatesWrongFalsely : Prop := crcUpdatesRow.holds Try.pinned (OpenSpec.ofChange crcUpdatesWrong)

/-- 'flightdecklaw06.CrcLinear': WHATEVER THE INPUT: true; the input reads as it did. -/
def crcLinearSpec : ChangeSpec := { name := "crcLinear", fn := fun _ => fun
  | [d1, d2, d3] => { results := [.lit (.bool true)], args := [d1, d2, d3] }
  | _ => none }
def crcLinearRow : OpenClaim := { program := "ytdecfjdmcfnbkaa", sum := "dd010ed4c06b0bcbed8ff5e9bdda38ecf6266fda1a1a83df3b1e286ac929a969", func := "flightdeck/flightdecklaw06.CrcLinear", spec := "crcLinear", apart := false }
def CrcLinearSaid : Prop := crcLinearRow.holds Try.pinned (OpenSpec.ofChange crcLinearSpec)

/-- ITS FALSE NEIGHBOUR: 'it returns false'. Refute it at one input. -/
def crcLinearWrong : ChangeSpec := { name := "crcLinear", fn := fun _ => fun
  | [d1, d2, d3] => { results := [.lit (.bool false)], args := [d1, d2, d3] }
  | _ => none }
def CrcLinearWrongFalsely : Prop := crcLinearRow.holds Try.pinned (OpenSpec.ofChange crcLinearWrong)

/-- 'flightdecklaw06.CrcSeals': WHATEVER THE INPUT: true; the input reads as it did. -/
def crcSealsSpec : ChangeSpec := { name := "crcSeals", fn := fun _ => fun
  | [d] => { results := [.lit (.bool true)], args := [d] }
  | _ => none }
def crcSealsRow : OpenClaim := { program := "ytdecfjdmcfnbkaa", sum := "dd010ed4c06b0bcbed8ff5e9bdda38ecf6266fda1a1a83df3b1e286ac929a969", func := "flightdeck/flightdecklaw06.CrcSeals", spec := "crcSeals", apart := false }
def CrcSealsSaid : Prop := crcSealsRow.holds Try.pinned (OpenSpec.ofChange crcSealsSpec)

/-- ITS FALSE NEIGHBOUR: 'it returns false'. Refute it at one input. -/
def crcSealsWrong : ChangeSpec := { name := "crcSeals", fn := fun _ => fun
  | [d] => { results := [.lit (.bool false)], args := [d] }
  | _ => none }
def CrcSealsWrongFalsely : Prop := crcSealsRow.holds Try.pinned (OpenSpec.ofChange crcSealsWrong)

/-- 'flightdecklaw06.CrcOpens': WHATEVER THE INPUT: true; the input reads as it did. -/
def crcOpensSpec : ChangeSpec := { name := "crcOpens", fn := fun _ => fun
  | [d] => { results := [.lit (.bool true)], args := [d] }
  | _ => none }
def crcOpensRow : OpenClaim := { program := "ytdecfjdmcfnbkaa", sum := "dd010ed4c06b0bcbed8ff5e9bdda38ecf6266fda1a1a83df3b1e286ac929a969", func := "flightdeck/flightdecklaw06.CrcOpens", spec := "crcOpens", apart := false }
def CrcOpensSaid : Prop := crcOpensRow.holds Try.pinned (OpenSpec.ofChange crcOpensSpec)

/-- ITS FALSE NEIGHBOUR: 'it returns false'. Refute it at one input. -/
def crcOpensWrong : ChangeSpec := { name := "crcOpens", fn := fun _ => fun
  | [d] => { results := [.lit (.bool false)], args := [d] }
  | _ => none }
def CrcOpensWrongFalsely : Prop := crcOpensRow.holds Try.pinned (OpenSpec.ofChange crcOpensWrong)

/-- 'flightdecklaw06.CrcFlips': WHATEVER THE INPUT: true; the input reads as it did. -/
def crcFlipsSpec : ChangeSpec := { name := "crcFlips", fn := fun _ => fun
  | [d1, d2, d3] => { results := [.lit (.bool true)], args := [d1, d2, d3] }
  | _ => none }
def crcFlipsRow : OpenClaim := { program := "ytdecfjdmcfnbkaa", sum := "dd010ed4c06b0bcbed8ff5e9bdda38ecf6266fda1a1a83df3b1e286ac929a969", func := "flightdeck/flightdecklaw06.CrcFlips", spec := "crcFlips", apart := false }
def CrcFlipsSaid : Prop := crcFlipsRow.holds Try.pinned (OpenSpec.ofChange crcFlipsSpec)

/-- ITS FALSE NEIGHBOUR: 'it returns false'. Refute it at one input. -/
def crcFlipsWrong : ChangeSpec := { name := "crcFlips", fn := fun _ => fun
  | [d1, d2, d3] => { results := [.lit (.bool false)], args := [d1, d2, d3] }
  | _ => none }
def CrcFlipsWrongFalsely : Prop := crcFlipsRow.holds Try.pinned (OpenSpec.ofChange crcFlipsWrong)

/-- 'flightdecklaw06.CrcBursts': WHATEVER THE INPUT: true; the input reads as it did. -/
def crcBurstsSpec : ChangeSpec := { name := "crcBursts", fn := fun _ => fun
  | [d1, d2, d3] => { results := [.lit (.bool true)], args := [d1, d2, d3] }
  | _ => none }
def crcBurstsRow : OpenClaim := { program := "ytdecfjdmcfnbkaa", sum := "dd010ed4c06b0bcbed8ff5e9bdda38ecf6266fda1a1a83df3b1e286ac929a969", func := "flightdeck/flightdecklaw06.CrcBursts", spec := "crcBursts", apart := false }
def CrcBurstsSaid : Prop := crcBurstsRow.holds Try.pinned (OpenSpec.ofChange crcBurstsSpec)

/-- ITS FALSE NEIGHBOUR: 'it returns false'. Refute it at one input. -/
def crcBurstsWrong : ChangeSpec := { name := "crcBursts", fn := fun _ => fun
  | [d1, d2, d3] => { results := [.lit (.bool false)], args := [d1, d2, d3] }
  | _ => none }
def CrcBurstsWrongFalsely : Prop := crcBurstsRow.holds Try.pinned (OpenSpec.ofChange crcBurstsWrong)

/-- 'flightdecklaw06.CrcPairs': WHATEVER THE INPUT: true; the input reads as it did. -/
def crcPairsSpec : ChangeSpec := { name := "crcPairs", fn := fun _ => fun
  | [d1, d2, d3] => { results := [.lit (.bool true)], args := [d1, d2, d3] }
  | _ => none }
def crcPairsRow : OpenClaim := { program := "ytdecfjdmcfnbkaa", sum := "dd010ed4c06b0bcbed8ff5e9bdda38ecf6266fda1a1a83df3b1e286ac929a969", func := "flightdeck/flightdecklaw06.CrcPairs", spec := "crcPairs", apart := false }
def CrcPairsSaid : Prop := crcPairsRow.holds Try.pinned (OpenSpec.ofChange crcPairsSpec)

/-- ITS FALSE NEIGHBOUR: 'it returns false'. Refute it at one input. -/
def crcPairsWrong : ChangeSpec := { name := "crcPairs", fn := fun _ => fun
  | [d1, d2, d3] => { results := [.lit (.bool false)], args := [d1, d2, d3] }
  | _ => none }
def CrcPairsWrongFalsely : Prop := crcPairsRow.holds Try.pinned (OpenSpec.ofChange crcPairsWrong)

/-- 'flightdecklaw06.CrcStreams': WHATEVER THE INPUT: true; the input reads as it did. -/
def crcStreamsSpec : ChangeSpec := { name := "crcStreams", fn := fun _ => fun
  | [d1, d2] => { results := [.lit (.bool true)], args := [d1, d2] }
  | _ => none }
def crcStreamsRow : OpenClaim := { program := "ytdecfjdmcfnbkaa", sum := "dd010ed4c06b0bcbed8ff5e9bdda38ecf6266fda1a1a83df3b1e286ac929a969", func := "flightdeck/flightdecklaw06.CrcStreams", spec := "crcStreams", apart := false }
def CrcStreamsSaid : Prop := crcStreamsRow.holds Try.pinned (OpenSpec.ofChange crcStreamsSpec)

/-- ITS FALSE NEIGHBOUR: 'it returns false'. Refute it at one input. -/
def crcStreamsWrong : ChangeSpec := { name := "crcStreams", fn := fun _ => fun
  | [d1, d2] => { results := [.lit (.bool false)], args := [d1, d2] }
  | _ => none }
def CrcStreamsWrongFalsely : Prop := crcStreamsRow.holds Try.pinned (OpenSpec.ofChange crcStreamsWrong)

/-- 'flightdecklaw06.CrcCombines': WHATEVER THE INPUT: true; the input reads as it did. -/
def crcCombinesSpec : ChangeSpec := { name := "crcCombines", fn := fun _ => fun
  | [d1, d2, d3] => { results := [.lit (.bool true)], args := [d1, d2, d3] }
  | _ => none }
def crcCombinesRow : OpenClaim := { program := "ytdecfjdmcfnbkaa", sum := "dd010ed4c06b0bcbed8ff5e9bdda38ecf6266fda1a1a83df3b1e286ac929a969", func := "flightdeck/flightdecklaw06.CrcCombines", spec := "crcCombines", apart := false }
def CrcCombinesSaid : Prop := crcCombinesRow.holds Try.pinned (OpenSpec.ofChange crcCombinesSpec)

/-- ITS FALSE NEIGHBOUR: 'it returns false'. Refute it at one input. -/
def crcCombinesWrong : ChangeSpec := { name := "crcCombines", fn := fun _ => fun
  | [d1, d2, d3] => { results := [.lit (.bool false)], args := [d1, d2, d3] }
  | _ => none }
def CrcCombinesWrongFalsely : Prop := crcCombinesRow.holds Try.pinned (OpenSpec.ofChange crcCombinesWrong)

/- THE SECOND FORM. 'bulk': how many values and letters a reading holds, each counted each time it is reached (what is shared counts as often as it is met; a slice's spare places count too). A statement '..UptoSaid' is the law's where the arguments, and the package variables that the reading takes, are together of bulk at most 1048576: NARROWER than '..Said'. Prove '..Said' where nothing that the law and all that it calls make is longer than what came in: it says more and counts as full. Else prove '..UptoSaid'. A law counts once. -/
mutual
def uptoBulk {H : Type} : DataW H → Nat
  | .lit (.string bytes) => bytes.length + 1
  | .lit _ => 1
  | .nil => 1
  | .ptr d => uptoBulk d + 1
  | .slice elems spare => uptoBulkAll elems + uptoBulkAll spare + 1
  | .agg parts => uptoBulkAll parts + 1
  | .iface _ d => uptoBulk d + 1
  | .map entries => uptoBulkEntries entries + 1
  | .held _ => 1
def uptoBulkAll {H : Type} : List (DataW H) → Nat
  | [] => 0
  | d :: r => uptoBulk d + uptoBulkAll r
def uptoBulkEntries {H : Type} : List (Lit × DataW H) → Nat
  | [] => 0
  | x :: r => uptoBulkEntry x + uptoBulkEntries r
def uptoBulkEntry {H : Type} : Lit × DataW H → Nat
  | (.string bytes, d) => bytes.length + uptoBulk d + 1
  | (_, d) => uptoBulk d + 1
 end
def uptoSmall : (H : Type) → List (DataW H) → Bool := fun _ ds => decide (uptoBulkAll ds ≤ 1048576)
def OpenSpec.upto (s : _root_.Go.ChangeSpec) : _root_.Go.OpenSpec := { _root_.Go.OpenSpec.ofChange s with cond := some uptoSmall }

/-- 'flightdecklaw06.CrcSums', WHERE WHAT IT READS IS OF BULK AT MOST 1048576: true; the input reads as it did. -/
def crcSumsUptoRow : OpenClaim := { program := "ytdecfjdmcfnbkaa", sum := "dd010ed4c06b0bcbed8ff5e9bdda38ecf6266fda1a1a83df3b1e286ac929a969", func := "flightdeck/flightdecklaw06.CrcSums", spec := "crcSums", apart := false, narrowed := true }
def CrcSumsUptoSaid : Prop := crcSumsUptoRow.holds Try.pinned (OpenSpec.upto crcSumsSpec)

/-- 'flightdecklaw06.CrcUpdates', WHERE WHAT IT READS IS OF BULK AT MOST 1048576: true; the input reads as it did. -/
def crcUpdatesUptoRow : OpenClaim := { program := "ytdecfjdmcfnbkaa", sum := "dd010ed4c06b0bcbed8ff5e9bdda38ecf6266fda1a1a83df3b1e286ac929a969", func := "flightdeck/flightdecklaw06.CrcUpdates", spec := "crcUpdates", apart := false, narrowed := true }
def CrcUpdatesUptoSaid : Prop := crcUpdatesUptoRow.holds Try.pinned (OpenSpec.upto crcUpdatesSpec)

/-- 'flightdecklaw06.CrcLinear', WHERE WHAT IT READS IS OF BULK AT MOST 1048576: true; the input reads as it did. -/
def crcLinearUptoRow : OpenClaim := { program := "ytdecfjdmcfnbkaa", sum := "dd010ed4c06b0bcbed8ff5e9bdda38ecf6266fda1a1a83df3b1e286ac929a969", func := "flightdeck/flightdecklaw06.CrcLinear", spec := "crcLinear", apart := false, narrowed := true }
def CrcLinearUptoSaid : Prop := crcLinearUptoRow.holds Try.pinned (OpenSpec.upto crcLinearSpec)

/-- 'flightdecklaw06.CrcSeals', WHERE WHAT IT READS IS OF BULK AT MOST 1048576: true; the input reads as it did. -/
def crcSealsUptoRow : OpenClaim := { program := "ytdecfjdmcfnbkaa", sum := "dd010ed4c06b0bcbed8ff5e9bdda38ecf6266fda1a1a83df3b1e286ac929a969", func := "flightdeck/flightdecklaw06.CrcSeals", spec := "crcSeals", apart := false, narrowed := true }
def CrcSealsUptoSaid : Prop := crcSealsUptoRow.holds Try.pinned (OpenSpec.upto crcSealsSpec)

/-- 'flightdecklaw06.CrcOpens', WHERE WHAT IT READS IS OF BULK AT MOST 1048576: true; the input reads as it did. -/
def crcOpensUptoRow : OpenClaim := { program := "ytdecfjdmcfnbkaa", sum := "dd010ed4c06b0bcbed8ff5e9bdda38ecf6266fda1a1a83df3b1e286ac929a969", func := "flightdeck/flightdecklaw06.CrcOpens", spec := "crcOpens", apart := false, narrowed := true }
def CrcOpensUptoSaid : Prop := crcOpensUptoRow.holds Try.pinned (OpenSpec.upto crcOpensSpec)

/-- 'flightdecklaw06.CrcFlips', WHERE WHAT IT READS IS OF BULK AT MOST 1048576: true; the input reads as it did. -/
def crcFlipsUptoRow : OpenClaim := { program := "ytdecfjdmcfnbkaa", sum := "dd010ed4c06b0bcbed8ff5e9bdda38ecf6266fda1a1a83df3b1e286ac929a969", func := "flightdeck/flightdecklaw06.CrcFlips", spec := "crcFlips", apart := false, narrowed := true }
def CrcFlipsUptoSaid : Prop := crcFlipsUptoRow.holds Try.pinned (OpenSpec.upto crcFlipsSpec)

/-- 'flightdecklaw06.CrcBursts', WHERE WHAT IT READS IS OF BULK AT MOST 1048576: true; the input reads as it did. -/
def crcBurstsUptoRow : OpenClaim := { program := "ytdecfjdmcfnbkaa", sum := "dd010ed4c06b0bcbed8ff5e9bdda38ecf6266fda1a1a83df3b1e286ac929a969", func := "flightdeck/flightdecklaw06.CrcBursts", spec := "crcBursts", apart := false, narrowed := true }
def CrcBurstsUptoSaid : Prop := crcBurstsUptoRow.holds Try.pinned (OpenSpec.upto crcBurstsSpec)

/-- 'flightdecklaw06.CrcPairs', WHERE WHAT IT READS IS OF BULK AT MOST 1048576: true; the input reads as it did. -/
def crcPairsUptoRow : OpenClaim := { program := "ytdecfjdmcfnbkaa", sum := "dd010ed4c06b0bcbed8ff5e9bdda38ecf6266fda1a1a83df3b1e286ac929a969", func := "flightdeck/flightdecklaw06.CrcPairs", spec := "crcPairs", apart := false, narrowed := true }
def CrcPairsUptoSaid : Prop := crcPairsUptoRow.holds Try.pinned (OpenSpec.upto crcPairsSpec)

/-- 'flightdecklaw06.CrcStreams', WHERE WHAT IT READS IS OF BULK AT MOST 1048576: true; the input reads as it did. -/
def crcStreamsUptoRow : OpenClaim := { program := "ytdecfjdmcfnbkaa", sum := "dd010ed4c06b0bcbed8ff5e9bdda38ecf6266fda1a1a83df3b1e286ac929a969", func := "flightdeck/flightdecklaw06.CrcStreams", spec := "crcStreams", apart := false, narrowed := true }
def CrcStreamsUptoSaid : Prop := crcStreamsUptoRow.holds Try.pinned (OpenSpec.upto crcStreamsSpec)

/-- 'flightdecklaw06.CrcCombines', WHERE WHAT IT READS IS OF BULK AT MOST 1048576: true; the input reads as it did. -/
def crcCombinesUptoRow : OpenClaim := { program := "ytdecfjdmcfnbkaa", sum := "dd010ed4c06b0bcbed8ff5e9bdda38ecf6266fda1a1a83df3b1e286ac929a969", func := "flightdeck/flightdecklaw06.CrcCombines", spec := "crcCombines", apart := false, narrowed := true }
def CrcCombinesUptoSaid : Prop := crcCombinesUptoRow.holds Try.pinned (OpenSpec.upto crcCombinesSpec)

end Rows
end Go.Proofs.Ytdecfjdmcfnbkaa

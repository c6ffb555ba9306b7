/-
  ChartcheckWitnesses: called with any input, the function answers true, and its arguments read as they did before; no condition.
-/
import Derived.Test.YtppfnndafbhegaaGreatDoorK1
import Derived.Test.YtppfnndafbhegaaGreatDoorK2
import Derived.Test.YtppfnndafbhegaaGreatDoorPart7
import Derived.Test.YtppfnndafbhegaaGreatDoorRows
import Derived.Test.YtppfnndafbhegaaGreatDoorChecked
import Derived.WalkKit
import Derived.ProofKit
import Derived.OpenShut
import Derived.ShutString
import Derived.ChangeOld
import Derived.Below
import Derived.Test.YtppfnndafbhegaaGreatDoorCards
import Derived.Test.YtppfnndafbhegaaGreatDoorTie
import Derived.SevenTiedAt
import Derived.ChangeSame
import Derived.JoinedOf
import Derived.LaidLaws
import Derived.LaidHandle
import Derived.Deep.DeepLaidRun
import Derived.Handed
import Derived.WitnessAt
import Derived.RowKitTokens
set_option linter.unusedVariables false
set_option linter.unusedSimpArgs false
namespace Go.Proofs.YtppfnndafbhegaaGreatDoor.chartcheckWitnesses
open Go.ChangeShapes Go.WideShapes Go.ChangeAt Go.RowKit Go.Base Go.Av
theorem own : ownKnob Tryz.prog.godebug = none := by kernel_rfl
theorem laidOut : laidOutB Tryz.prog = true := by kernel_rfl
def litV : DataW Unit → Value
 | .lit (.int k n) => .int k n
 | _ => undef
def cellsV : DataW Unit → List Value
 | .agg l => l.flatMap fun x => match x with
  | .agg l' => l'.map litV
  | y => [litV y]
 | _ => []
noncomputable def laidWorld (os : Os) : World :=
 let w0 := World.holding Tryz.prog os ⟨#[], #[], []⟩
 { w0 with heap := ((w0.heap.modify 5 fun | .cells _ t frozen => .cells (cellsV Rows.laid_unicode_utf8_acceptRanges).toArray t frozen | o => o).modify 4 fun | .cells _ t frozen => .cells (cellsV Rows.laid_unicode_utf8_first).toArray t frozen | o => o) }
set_option maxRecDepth 100000 in
theorem laidWorld_met (os : Os) (args : Array Value) : laidMetH Tryz.prog Rows.chartcheckWitnessesRow.laid ((laidWorld os).forCall (fun _ _ => 0) ⟨#[], args, []⟩).memory :=
 laidMetH_of_parts (laidMet_of_run3 8 (by kernel_rfl) (by kernel_rfl) (by kernel_rfl)) (by kernel_rfl)
set_option maxRecDepth 100000 in
theorem lifted (os : Os) (started : os.Started) (H : Type) (enc : TypeId × Value → H) :
  ReturnsInHanded {} Tryz.checked os 7 .any (fun w args => (Rows.chartcheckWitnessesSpec.pre enc Tryz.prog Tryz.f7 Rows.chartcheckWitnessesRow.domain false w args ∧ laidMetH Tryz.prog Rows.chartcheckWitnessesRow.laid w) ∧ sizedMet enc Tryz.prog Tryz.f7 (OpenSpec.ofChange Rows.chartcheckWitnessesSpec) false w args)
   (Rows.chartcheckWitnessesSpec.post enc Tryz.prog Tryz.f7 false true false false) := by
 refine returnsInHanded_of_change_and (C := Tryz.checked) (X := fun w _ => laidMetH Tryz.prog Rows.chartcheckWitnessesRow.laid w) (fun _ _ _ hh h => h.of_heap hh) own started (by kernel_rfl) Tryz.func7
  (ChangeSpec.witness_at (enc := enc) (C := Tryz.checked) (os := os) (X := fun w _ => laidMetH Tryz.prog Rows.chartcheckWitnessesRow.laid w) false (laidWorld os) #[.agg #[.string ⟨#[]⟩, .slice none 0 0, .slice none 0 0, .slice none 0 0, .int .i64 0, .slice none 0 0], .int .i64 0] 8 rfl (by kernel_rfl) (by kernel_rfl) (by kernel_rfl) (by kernel_rfl) (by kernel_rfl) (laidWorld_met os _)) ?_
 intro W base args ds gs before hval0 hW _ _ _ _
 have hval : ∀ (j : Nat) t v, Tryz.f7.params[j]? = some t → args[j]? = some v → Value.okWide Tryz.prog W .any base t v := hval0
 have hW' := hW
 obtain ⟨p, q, hA0, hV, rfl, hfz, hnd⟩ := hW
 have hA : DataW.TrodAll enc Tryz.prog W 0 (fun _ => true) true Tryz.f7.params.toList args.toList ds p := hA0
 rw [Tryz.params7] at hA hval
 obtain ⟨v0, vs0, d0, ds0, p0, q0, hargs, rfl, rfl, h0, r0⟩ := trodAll_cons hA
 obtain ⟨v1, vs1, d1, ds1, p1, q1, rfl, rfl, rfl, h1, r1⟩ := trodAll_cons r0
 obtain ⟨rfl, rfl, rfl⟩ := trodAll_nil r1
 obtain rfl : args = #[v0, v1] := by cases args; simp_all
 obtain ⟨rfl, rfl⟩ := trodVars_none hV
 have k0 := h0
 have lt0 : ∀ x ∈ p0, x.block < W.heap.size := by obtain ⟨m, hm⟩ := k0; exact DataW.trod_lt m _ _ _ hm
 have k1 := h1
 have lt1 : ∀ x ∈ p1, x.block < W.heap.size := by obtain ⟨m, hm⟩ := k1; exact DataW.trod_lt m _ _ _ hm
 clear hA0 hval0
 obtain ⟨cs0, rfl, sz0⟩ := okWide_struct Tryz.underlying27 (hval 0 27 v0 rfl rfl)
 obtain ⟨fuel0, hf0⟩ := h0
 obtain ⟨x0, e0, b0⟩ := op27 H enc fuel0 _ _ hf0
 obtain ⟨x1, rfl, _, _, b1⟩ := open_int Tryz.underlying3 (hval 1 3 v1 rfl rfl) k1
 refine (law_call (p7 (plain7 b0 b1)) (args := #[_, _]) (repL_cons (rep_agg e0) (repL_cons (by simp only [Rep]) repL_nil))).mono fun e W' ⟨he, bel⟩ => ?_
 subst he
 exact ⟨_, rfl, _, _, _, [], _, [], hW', trodAll_mk1 (shut_bool Tryz.underlying4 _), (trodAll_cons_mk (Below.trod laidOut (by kernel_rfl) (of_decide_eq_true (by kernel_rfl)) k0 bel lt0) (trodAll_cons_mk (Below.trod laidOut (by kernel_rfl) (of_decide_eq_true (by kernel_rfl)) k1 bel lt1) trodAll_mk0)), rfl, bel.frame _, fun h => by cases h⟩
set_option maxRecDepth 100000 in
theorem j1 : Tryz.prog.inPlace 7 = Rows.chartcheckWitnessesRow.inPlace := by kernel_rfl
set_option maxRecDepth 100000 in
theorem j2 : Tryz.prog.unfollowed 7 = Rows.chartcheckWitnessesRow.unfollowed := by kernel_rfl
set_option maxRecDepth 100000 in
theorem j3 : Tryz.prog.recurses 7 = Rows.chartcheckWitnessesRow.recurses := by kernel_rfl
set_option maxRecDepth 100000 in
theorem j4 : Tryz.prog.varsNamed 7 = Rows.chartcheckWitnessesRow.named := by kernel_rfl
set_option maxRecDepth 100000 in
theorem j5 : mapsRowed Tryz.prog = true := by kernel_rfl
set_option maxRecDepth 100000 in
theorem closed : joinedFacts Tryz.prog 7 Tryz.f7 Rows.chartcheckWitnessesSpec Rows.chartcheckWitnessesRow = true := by
 unfold joinedFacts
 rw [j1, j2, j3, j4, j5, laidOut]
 show _ = _
 kernel_rfl
theorem over : Rows.chartcheckWitnessesRow.holds Tryz.pinned (OpenSpec.ofChange Rows.chartcheckWitnessesSpec) :=
 OpenClaim.holds_of_wide 7 Tryz.f7 rfl rfl rfl rfl rfl rfl rfl ⟨rfl, rfl, rfl, rfl, rfl⟩ rfl rfl rfl rfl rfl (by kernel_rfl) Tryz.func7 closed
  (of_decide_eq_true (by kernel_rfl)) (by unfold Func.isWrapper; first | (rw [if_pos (by decide +kernel)]; kernel_rfl) | (rw [if_neg (by decide +kernel)]; exact ⟨rfl, rfl⟩))
  (fun os started H enc _ => lifted os started H enc)
theorem proved : Rows.ChartcheckWitnessesCardSaid :=
 Claim7.holds_tied_plain_at .later [] [.data, .pinned] true (true, "16bcb538407a7e34d49705c629878eda5941c7b367ca5cd21dbf7ccba097e956") false
  over (fun _ h => by cases h) (by kernel_rfl) (fun _ h => by cases h) chartcheckWitnesses_row_tie rfl ⟨rfl,rfl⟩ K1.km rfl
  (fun f fn hf hfn => by
   obtain rfl : f = 7 := Option.some.inj ((show Tryz.prog.funcNamed "flightdeck/flightdecklaw48.ChartcheckWitnesses" = some 7 by kernel_rfl).symm.trans hf) |>.symm
   obtain rfl : fn = Tryz.f7 := (Option.some.inj (Tryz.func7.symm.trans hfn)).symm
   exact ⟨by kernel_rfl, fun j t ht => by
    rw [Tryz.params7] at ht
    have hm : t ∈ [27, 3] := by
     have := List.mem_of_getElem? (by simpa using ht : ([27, 3] : List Nat)[j]? = some t)
     exact this
    simp only [List.mem_cons, List.not_mem_nil, or_false] at hm
    rcases hm with rfl | rfl
    ·exact (show Tryz.prog.wantsStandIn 27 = false by kernel_rfl)
    ·exact (show Tryz.prog.wantsStandIn 3 = false by kernel_rfl)⟩)
  K2.kg
end Go.Proofs.YtppfnndafbhegaaGreatDoor.chartcheckWitnesses


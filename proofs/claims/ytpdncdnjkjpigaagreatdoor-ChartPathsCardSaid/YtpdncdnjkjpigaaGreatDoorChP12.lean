/- The law of chart's leaves and paths, in plain terms. -/
import Derived.Test.YtpdncdnjkjpigaaGreatDoorChS
set_option linter.unusedSimpArgs false
set_option linter.unusedVariables false
namespace Go.Av
open Ch
set_option maxRecDepth 1000000
theorem Ch.awake_true : m13 = some true := by kernel_rfl
theorem leavesS_len (c : T27) : (leavesS c).length ≤ c.States.length := by
  have := flatMap_len (leafG_len c) c.States.length; unfold leavesS; omega
theorem plain12 {c : T27} {s : Int} (_ : ok27 c) (_ : (Lit.int .i64 s).wf = true) : m12 c s = some true := by
  have S := few_small c
  have H := S.fit
  have hs := S.states
  have hL : (leavesS (fewS c)).length ≤ 1000000 := Nat.le_trans (leavesS_len _) (Nat.le_trans hs (by omega))
  have hP : ∀ x, (pathS (fewS c) x).length ≤ 1000000 := fun x => Nat.le_trans (pathS_len _ x) (Nat.le_trans hs (by omega))
  delta m12 d12
  simp only [↓JD.sg_m, ↓JD.sq_m, ↓JD.sc_m, ↓JD.bk_m, ↓JD.lp_m, ↓JD.cd_m, ↓Tr.run, ↓Tr.run_nd, ↓Tr.run_c3, ↓Tr.run_c2, ↓Tr.run_nx, ↓onS, bind_ite, Option.bind_some, Option.bind_none, obR, awake_true, Few_eq, Leaves_eq _ H, rLeaves_eq _ H, Path_eq _ H, rPath_eq _ H, sameI _ hL, sameI _ (hP _), Bool.not_false, Bool.not_true, Bool.false_or, Bool.false_eq_true, if_false, if_true, onS_l]
  refine loop_pass (fewS c).States.length (fun i hi => ?_) (by (simp only [lt_irr, decide_false, Bool.false_eq_true, if_false]; try rfl)) rfl
  simp only [inL hi, decide_true, eta, Path_eq _ H, rPath_eq _ H, sameI _ (hP _), if_true, wr1 hi (by omega), Option.bind_some, Bool.not_true, Bool.false_eq_true, if_false]
end Go.Av

/- The law of chart's transitions that are enabled, in plain terms. -/
import Derived.Test.YtpdncdnjkjpigaaGreatDoorChS
set_option linter.unusedSimpArgs false
set_option linter.unusedVariables false
namespace Go.Av
open Ch
set_option maxRecDepth 1000000
theorem Ch.awake_true : m13 = some true := by kernel_rfl
theorem plain4 {c : T27} {leaf v : Int} (_ : ok27 c) (_ : (Lit.int .i64 leaf).wf = true) (hv : (Lit.int .u16 v).wf = true) : m4 c leaf v = some true := by
  have S := few_small c
  have H := S.fit
  obtain ⟨v0, v1⟩ := u16_bounds hv
  have hE : (enabledS (fewS c) leaf v).length ≤ 1000000 := Nat.le_trans (enabledS_len ..) (Nat.le_trans S.trans (by omega))
  delta m4 d4
  simp only [↓JD.sg_m, ↓JD.sq_m, ↓JD.sc_m, ↓JD.bk_m, ↓JD.lp_m, ↓JD.cd_m, ↓Tr.run, ↓Tr.run_nd, ↓Tr.run_c3, ↓Tr.run_c2, ↓Tr.run_nx, ↓onS, bind_ite, Option.bind_some, Option.bind_none, obR, awake_true, Few_eq, Allowed_eq _ H, rAllowed_eq _ H v v0 v1, Enabled_eq _ H, rEnabled_eq _ H, sameI _ hE, bne_self, Bool.not_false, Bool.not_true, Bool.false_or, Bool.false_eq_true, if_false, if_true, onS_l]
  refine loop_pass (fewS c).Transitions.length (fun i hi => ?_) (by (simp only [lt_irr, decide_false, Bool.false_eq_true, if_false]; try rfl)) rfl
  have hw := S.when_ _ (getD_mem hi)
  have ht := S.trans
  simp only [inL hi, decide_true, Int.toNat_natCast, if_true, wr1 hi (by omega), Holds_eq _ _ (Nat.le_trans hw (by omega)), rHolds_eq _ _ (Nat.le_trans hw (by omega)), Option.bind_some, bne_self, Bool.false_eq_true, if_false]
end Go.Av

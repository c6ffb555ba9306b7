/- The law of chart's steps, in plain terms. -/
import Derived.Test.YtpdncdnjkjpigaaGreatDoorChL
set_option linter.unusedSimpArgs false
set_option linter.unusedVariables false
namespace Go.Av
open Ch
set_option maxRecDepth 1000000
theorem Ch.awake_true : m13 = some true := by kernel_rfl
theorem plain7 {c : T27} {g : T44} {v : Int} (_ : ok27 c) (_ : ok44 g) (hv : (Lit.int .u16 v).wf = true) : m7 c g v = some true := by
  have S := few_small c
  have H := S.fit
  obtain ⟨v0, v1⟩ := u16_bounds hv
  obtain ⟨r, hr⟩ := stepM_some (fewS c) (fewG g) v
  obtain ⟨h1, h2⟩ := stepM_ok H hr
  have h3 := stepM_mem H hr
  delta m7 d7
  simp only [↓JD.sg_m, ↓JD.sq_m, ↓JD.sc_m, ↓JD.bk_m, ↓JD.lp_m, ↓JD.cd_m, ↓Tr.run, ↓Tr.run_nd, ↓Tr.run_c3, ↓Tr.run_c2, ↓Tr.run_nx, ↓onS, bind_ite, Option.bind_some, Option.bind_none, obR, awake_true, Few_eq, fewConfig_eq, Step_eq _ H, rStep_eq _ H _ v v0 v1, hr, sameG r.1 (Nat.le_trans h3 (by omega)), sameS _ (Nat.le_trans h1 (by omega)), beq_self_eq_true, Bool.not_false, Bool.not_true, Bool.true_and, Bool.false_eq_true, if_false, if_true, onS_l]
end Go.Av

/- The law of chart's starts, in plain terms. -/
import Derived.Test.YtpdncdnjkjpigaaGreatDoorChL
set_option linter.unusedSimpArgs false
set_option linter.unusedVariables false
namespace Go.Av
open Ch
set_option maxRecDepth 1000000
theorem Ch.awake_true : m13 = some true := by kernel_rfl
theorem plain5 {c : T27} {g : T44} (_ : ok27 c) (_ : ok44 g) : m5 c g = some true := by
  have S := few_small c
  have H := S.fit
  obtain ⟨r, hr⟩ := startM_some (fewS c)
  obtain ⟨h1, h2⟩ := startM_ok H hr
  have h3 := startM_mem H hr
  delta m5 d5
  simp only [↓JD.sg_m, ↓JD.sq_m, ↓JD.sc_m, ↓JD.bk_m, ↓JD.lp_m, ↓JD.cd_m, ↓Tr.run, ↓Tr.run_nd, ↓Tr.run_c3, ↓Tr.run_c2, ↓Tr.run_nx, ↓onS, bind_ite, Option.bind_some, Option.bind_none, obR, awake_true, Few_eq, fewConfig_eq, Valid_eq _ H, rValid_eq _ H, Start_eq _ H, rStart_eq _ H, hr, sameG ⟨r.2.2.1, r.2.2.2⟩ (Nat.le_trans h3 (by omega)), sameS _ (Nat.le_trans h1 (by omega)), bne_self, beq_self_eq_true, Bool.not_false, Bool.not_true, Bool.true_and, Bool.and_true, Bool.false_or, Bool.false_eq_true, if_false, if_true, onS_l]
  by_cases h0 : r.1 = 0
  · simp only [h0, bne_self, Bool.not_false, if_true, (h2 h0).2, Option.bind_some, Bool.or_true]
  · have : (r.1 != 0) = true := by simpa using h0
    simp only [this, Bool.not_true, if_false, Bool.false_eq_true, Option.bind_some, Bool.true_or]
end Go.Av

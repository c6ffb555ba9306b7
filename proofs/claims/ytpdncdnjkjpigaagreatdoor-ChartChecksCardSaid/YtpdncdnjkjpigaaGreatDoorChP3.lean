/- The law of chart's checks, in plain terms. -/
import Derived.Test.YtpdncdnjkjpigaaGreatDoorChFew
namespace Go.Av
set_option maxRecDepth 1000000
theorem Ch.awake_true : m13 = some true := by kernel_rfl
theorem plain3 {c : T27} (_ : ok27 c) : m3 c = some true := by
  obtain ⟨e, he⟩ := Ch.checkM_some (Ch.fewS c)
  have H := (Ch.few_small c).fit
  delta m3 d3
  simp only [↓JD.sg_m, ↓JD.sq_m, ↓JD.sc_m, ↓JD.bk_m, ↓JD.lp_m, ↓JD.cd_m, ↓Tr.run, ↓Tr.run_nd, ↓Tr.run_c3, ↓Tr.run_c2, ↓Tr.run_nx, ↓onS, bind_ite, Option.bind_some, Option.bind_none, obR, Ch.awake_true, Ch.Few_eq, Ch.Check_eq _ H, Ch.rCheck_eq _ H, he, Bool.not_true, Bool.false_eq_true, if_false, beq_self_eq_true]
end Go.Av

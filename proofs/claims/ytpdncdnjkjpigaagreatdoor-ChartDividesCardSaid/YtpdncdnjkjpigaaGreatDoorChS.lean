/- Plain laws of chart: what is the same as itself; names of what the laws speak of. -/
import Derived.Test.YtpdncdnjkjpigaaGreatDoorChC
import Derived.Test.YtpdncdnjkjpigaaGreatDoorChFew
set_option linter.unusedSimpArgs false
set_option linter.unusedVariables false
set_option maxRecDepth 100000
namespace Go.Av.Ch
theorem eta (x : T27) : (⟨x.Name, x.Conds, x.Never, x.States, x.Start, x.Transitions⟩ : T27) = x := rfl
theorem etaG (x : T44) : (⟨x.Leaf, x.Memory⟩ : T44) = x := rfl
theorem bne_self {α : Type} [BEq α] [LawfulBEq α] (x : α) : (x != x) = false := by simp
theorem sameI (l : List Int) (hl : l.length ≤ 1000000) : m19 l l = some true := by
  delta m19 d19
  simp only [↓JD.sg_m, ↓JD.sq_m, ↓JD.sc_m, ↓JD.bk_m, ↓JD.lp_m, ↓JD.cd_m, ↓Tr.run, ↓Tr.run_nd, ↓Tr.run_c3, ↓Tr.run_c2, ↓Tr.run_nx, ↓onS, bind_ite, Option.bind_some, Option.bind_none, obR, bne_self, Bool.false_eq_true, if_false]
  refine loop_pass l.length (fun i hi => ?_) (by (simp only [lt_irr, decide_false, Bool.false_eq_true, if_false]; try rfl)) rfl
  simp only [inL hi, decide_true, Int.toNat_natCast, if_true, wr1 hi (by omega)]
theorem sameS (l : List (List UInt8)) (hl : l.length ≤ 1000000) : m30 l l = some true := by
  delta m30 d30
  simp only [↓JD.sg_m, ↓JD.sq_m, ↓JD.sc_m, ↓JD.bk_m, ↓JD.lp_m, ↓JD.cd_m, ↓Tr.run, ↓Tr.run_nd, ↓Tr.run_c3, ↓Tr.run_c2, ↓Tr.run_nx, ↓onS, bind_ite, Option.bind_some, Option.bind_none, obR, bne_self, Bool.false_eq_true, if_false]
  refine loop_pass l.length (fun i hi => ?_) (by (simp only [lt_irr, decide_false, Bool.false_eq_true, if_false]; try rfl)) rfl
  simp only [inL hi, decide_true, Int.toNat_natCast, if_true, wr1 hi (by omega)]
theorem sameG (g : T44) (hl : g.Memory.length ≤ 1000000) : m29 g g = some true := by
  delta m29 d29
  simp only [↓JD.sg_m, ↓JD.sq_m, ↓JD.sc_m, ↓JD.bk_m, ↓JD.lp_m, ↓JD.cd_m, ↓Tr.run, ↓Tr.run_nd, ↓Tr.run_c3, ↓Tr.run_c2, ↓Tr.run_nx, ↓onS, bind_ite, Option.bind_some, Option.bind_none, obR, sameI _ hl, beq_self_eq_true, if_true, Bool.true_and]
end Go.Av.Ch

/- The law of chart's transitions that fire, in plain terms. -/
import Derived.Test.YtpdncdnjkjpigaaGreatDoorChL
set_option linter.unusedSimpArgs false
set_option linter.unusedVariables false
namespace Go.Av
open Ch
set_option maxRecDepth 1000000
theorem Ch.awake_true : m13 = some true := by kernel_rfl
theorem fireF {c : T27} (H : Fit c) (g : T44) (t : Int) : m31 c g t = fireM c g t := fire_err H
theorem rfireF {c : T27} (H : Fit c) (g : T44) (t : Int) : m32 c g t = fireM c g t := rFire_eq H
theorem plain6 {c : T27} {g : T44} {t : Int} (_ : ok27 c) (_ : ok44 g) (_ : (Lit.int .i64 t).wf = true) : m6 c g t = some true := by
  have S := few_small c
  have H := S.fit
  have hs := S.trans
  delta m6 d6
  simp only [↓JD.sg_m, ↓JD.sq_m, ↓JD.sc_m, ↓JD.bk_m, ↓JD.lp_m, ↓JD.cd_m, ↓Tr.run, ↓Tr.run_nd, ↓Tr.run_c3, ↓Tr.run_c2, ↓Tr.run_nx, ↓onS, bind_ite, Option.bind_some, Option.bind_none, obR, awake_true, Few_eq, fewConfig_eq, fireF H, rfireF H, Valid_eq _ H, eta, etaG, Bool.not_false, Bool.not_true, Bool.true_and, Bool.false_eq_true, if_false, if_true, onS_l]
  refine loop_passZ (n := ((fewS c).Transitions.length : Int)) (fun i hi => ?_) ?_ ((fewS c).Transitions.length + 2) (-1) (by omega) fun i h0 h1 => ?_
  · have : decide (i ≤ ((fewS c).Transitions.length : Int)) = false := by simp; omega
    simp only [this, Bool.false_eq_true, if_false]
  · obtain ⟨r, hr⟩ := fireM_some (fewS c) (fewG g) t
    simp only [hr, Option.bind_some, beq_self_eq_true]
  · obtain ⟨r, hr⟩ := fireM_some (fewS c) (fewG g) i
    obtain ⟨k1, k2, k3⟩ := fireM_ok H hr
    have w : IntKind.wrap .i64 (i + 1) = i + 1 := w64 (by omega) (by omega)
    simp only [h1, decide_true, if_true, hr, Option.bind_some, sameG r.1 (Nat.le_trans k2 (by omega)), sameS _ (Nat.le_trans k1 (by omega)), bne_self, Bool.not_true, Bool.not_false, Bool.or_false, Bool.true_and, if_true, w, Bool.false_or]
    by_cases hz : r.2.2 = 0
    · simp only [hz, k3 hz, beq_self_eq_true, if_true, Option.bind_some, Bool.not_true, Bool.and_false, Bool.or_false, Bool.false_or, Bool.false_eq_true, if_false]
    · have : (r.2.2 == 0) = false := by simpa using hz
      simp only [this, Bool.false_eq_true, if_false, Option.bind_some, Bool.false_and, Bool.not_true, Bool.or_false, Bool.false_or]
end Go.Av

/- The law of chart's runs, in plain terms. -/
import Derived.Test.YtpdncdnjkjpigaaGreatDoorChL
set_option linter.unusedSimpArgs false
set_option linter.unusedVariables false
namespace Go.Av
open Ch
set_option maxRecDepth 1000000
theorem Ch.awake_true : m13 = some true := by kernel_rfl
theorem runS_ok {c : T27} (H : Fit c) : ∀ (l : List Int) (g : T44) (ls : List Int) (a : List (List UInt8)), ∃ z, runS c l g ls a = some z ∧ z.1.length ≤ ls.length + l.length ∧ z.2.1.length ≤ a.length + 32000 * l.length := by
  intro l
  induction l with
  | nil => intro g ls a; exact ⟨_, rfl, Nat.le_refl _, Nat.le_refl _⟩
  | cons v l ih =>
    intro g ls a
    obtain ⟨q, hq⟩ := stepM_some c g v
    have h1 := (stepM_ok H hq).1
    unfold runS
    rw [hq, Option.bind_some]
    split
    · exact ⟨_, rfl, by simp, by simp⟩
    · obtain ⟨z, hz, k1, k2⟩ := ih q.1 (ls ++ [q.1.Leaf]) (a ++ q.2.1)
      simp only [List.length_append, List.length_cons, List.length_nil] at k1 k2 ⊢
      exact ⟨z, hz, by omega, by omega⟩
theorem runM_ok {c : T27} (H : Fit c) (l : List Int) (hl : l.length ≤ 12) : ∃ z, runM c l = some z ∧ z.1.length ≤ 1000000 ∧ z.2.1.length ≤ 1000000 := by
  obtain ⟨r, hr⟩ := startM_some c
  have h1 := (startM_ok H hr).1
  unfold runM
  rw [hr, Option.bind_some]
  split
  · exact ⟨_, rfl, by simp, by simp⟩
  · obtain ⟨z, hz, k1, k2⟩ := runS_ok H l ⟨r.2.2.1, r.2.2.2⟩ [r.2.2.1] r.2.1
    simp only [List.length_cons, List.length_nil] at k1
    exact ⟨z, hz, by omega, by omega⟩
theorem plain8 {c : T27} {l : List Int} (_ : ok27 c) (hv : l.length ≤ maxLen ∧ ∀ b ∈ l, (Lit.int .u16 b).wf = true) : m8 c l = some true := by
  have S := few_small c
  have H := S.fit
  obtain ⟨k, hk, k1, k2⟩ := cut12 l
  obtain ⟨z, hz, z1, z2⟩ := runM_ok H k k1
  delta m8 d8
  simp only [↓JD.sg_m, ↓JD.sq_m, ↓JD.sc_m, ↓JD.bk_m, ↓JD.lp_m, ↓JD.cd_m, ↓Tr.run, ↓Tr.run_nd, ↓Tr.run_c3, ↓Tr.run_c2, ↓Tr.run_nx, ↓onS, bind_ite, Option.bind_some, Option.bind_none, obR, awake_true, Few_eq, minQ0 12 (by omega), minQ1, hk, Run_eq _ H k (by omega), rRun_eq _ H k (by omega) fun v h => u16_bounds (hv.2 v (k2 v h)), hz, sameI _ z1, sameS _ z2, beq_self_eq_true, Bool.not_false, Bool.not_true, Bool.true_and, Bool.false_eq_true, if_false, if_true, onS_l]
end Go.Av

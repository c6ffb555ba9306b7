/- The law of chart's runs and their steps, in plain terms. -/
import Derived.Test.YtpdncdnjkjpigaaGreatDoorChL
set_option linter.unusedSimpArgs false
set_option linter.unusedVariables false
namespace Go.Av
open Ch
set_option maxRecDepth 1000000
theorem Ch.awake_true : m13 = some true := by kernel_rfl
def divBad (c : T27) (leaf v : Int) : Bool := ((((enabledS c leaf v).length : Int) != 1) || !allowedS c v)
theorem step_bad {c : T27} (he : checkM c = some 0) {g : T44} (hg : validS c g = true) {v : Int} (h : divBad c g.Leaf v = true) : ∃ e, e ≠ 0 ∧ stepM c g v = some (⟨0, []⟩, [], e) := by
  unfold stepM
  simp only [he, Option.bind_some, bne_self, hg, Bool.not_true, Bool.false_eq_true, if_false]
  by_cases ha : allowedS c v = true
  · simp only [ha, Bool.not_true, Bool.false_eq_true, if_false]
    unfold divBad at h
    simp only [ha, Bool.not_true, Bool.or_false] at h
    have h1 : (((enabledS c g.Leaf v).length : Int) == 1) = false := by simpa using h
    by_cases h0 : (((enabledS c g.Leaf v).length : Int) == 0) = true
    · simp only [h0, if_true]; exact ⟨6, by decide, rfl⟩
    · simp only [h0, h1, Bool.false_eq_true, if_false]; exact ⟨11, by decide, rfl⟩
  · simp only [ha, Bool.not_false, if_true]; exact ⟨1, by decide, rfl⟩
theorem step_good {c : T27} (he : checkM c = some 0) {g : T44} (hg : validS c g = true) {v : Int} (h : divBad c g.Leaf v = false) : 0 < (enabledS c g.Leaf v).length ∧ stepM c g v = some (fireR c g ((enabledS c g.Leaf v).getD 0 default)) ∧ fireM c g ((enabledS c g.Leaf v).getD 0 default) = some (fireR c g ((enabledS c g.Leaf v).getD 0 default)) := by
  unfold divBad at h
  simp only [Bool.or_eq_false_iff, Bool.not_eq_false'] at h
  obtain ⟨h1, h2⟩ := h
  have h1' : (((enabledS c g.Leaf v).length : Int)) = 1 := by simpa using h1
  have hl : 0 < (enabledS c g.Leaf v).length := by omega
  obtain ⟨i, hi, hx, hon⟩ := enabled_at hl
  refine ⟨hl, ?_, ?_⟩
  · unfold stepM
    simp only [he, Option.bind_some, bne_self, hg, h2, h1', Bool.not_true, Bool.false_eq_true, if_false]
    rfl
  · unfold fireM
    rw [hx]
    have hn : (decide ((i : Int) < 0) || decide ((c.Transitions.length : Int) ≤ (i : Int))) = false := by
      simp only [Bool.or_eq_false_iff, decide_eq_false_iff_not]; omega
    simp only [he, Option.bind_some, bne_self, hg, hn, Int.toNat_natCast, hon, Bool.not_true, Bool.false_eq_true, if_false]
    rfl
theorem div_loop {c : T27} (H : Fit c) (hc : checkM c = some 0) {l : List Int} {z : List Int × List (List UInt8) × Int} {b : List (List UInt8) × List Int × Int × Int × List Int → Option ((List (List UInt8) × List Int × Int × Int × List Int) ⊕ ((List (List UInt8) × List Int) ⊕ Bool))}
    (hb : ∀ (i : Nat) (a : List (List UInt8)) (ls : List Int) (g : T44) (r : T44 × List (List UInt8) × Int), i < l.length → a.length ≤ 32000 * (i + 1) → ls.length = i + 1 → validS c g = true → r = fireR c g ((enabledS c g.Leaf (l.getD i default)).getD 0 default) →
      (divBad c g.Leaf (l.getD i default) = true → b (a, ls, (i : Int), g.Leaf, g.Memory) = some (.inr (.inr (z.2.2 != 0 && ((z.1.length : Int) == 0) && ((z.2.1.length : Int) == 0))))) ∧
      (divBad c g.Leaf (l.getD i default) = false → b (a, ls, (i : Int), g.Leaf, g.Memory) = some (.inl (a ++ r.2.1, ls ++ [r.1.Leaf], ((i + 1 : Nat) : Int), r.1.Leaf, r.1.Memory))))
    (he : ∀ a ls (g : T44), b (a, ls, (l.length : Int), g.Leaf, g.Memory) = some (.inr (.inl (a, ls)))) :
    ∀ (k i : Nat) (a : List (List UInt8)) (ls : List Int) (g : T44), i + k = l.length → a.length ≤ 32000 * (i + 1) → ls.length = i + 1 → validS c g = true → runS c (l.drop i) g ls a = some z →
      (loopO b (a, ls, (i : Int), g.Leaf, g.Memory) = some (.inl (z.2.1, z.1)) ∧ z.2.2 = 0) ∨ loopO b (a, ls, (i : Int), g.Leaf, g.Memory) = some (.inr true) := by
  intro k
  induction k with
  | zero =>
    intro i a ls g hk ha hls hg hr
    obtain rfl : i = l.length := by omega
    rw [List.drop_length] at hr
    unfold runS at hr
    injection hr with hr; subst hr
    rw [loopO_eq, he]; exact .inl ⟨rfl, rfl⟩
  | succ k ih =>
    intro i a ls g hk ha hls hg hr
    have hi : i < l.length := by omega
    have hd : l.drop i = l.getD i default :: l.drop (i + 1) := by
      rw [List.drop_eq_getElem_cons hi]; simp [List.getD_eq_getElem?_getD, List.getElem?_eq_getElem hi]
    rw [hd] at hr
    unfold runS at hr
    obtain ⟨q1, q2⟩ := hb i a ls g _ hi ha hls hg rfl
    cases hD : divBad c g.Leaf (l.getD i default) with
    | true =>
      obtain ⟨e, h0, hs⟩ := step_bad hc hg hD
      have h0' : (e != 0) = true := by simpa using h0
      rw [hs, Option.bind_some] at hr
      simp only [h0', if_true] at hr
      injection hr with hr; subst hr
      rw [loopO_eq, q1 hD]
      simp only [h0', List.length_nil, Int.cast_ofNat_Int, Option.bind_some]
      exact .inr rfl
    | false =>
      obtain ⟨h1, hs, hf⟩ := step_good hc hg hD
      have hb1 := (stepM_ok H hs).1
      have hv := ((stepM_ok H hs).2 rfl).2.2
      rw [hs, Option.bind_some] at hr
      have e0 : ((fireR c g ((enabledS c g.Leaf (l.getD i default)).getD 0 default)).2.2 != 0) = false := rfl
      simp only [e0, Bool.false_eq_true, if_false] at hr
      rw [loopO_eq, q2 hD]
      exact ih (i + 1) _ _ _ (by omega) (by rw [List.length_append]; omega) (by rw [List.length_append, hls]; rfl) hv hr
theorem div_all {c : T27} (H : Fit c) (hc : checkM c = some 0) {l : List Int} {z : List Int × List (List UInt8) × Int} {b : List (List UInt8) × List Int × Int × Int × List Int → Option ((List (List UInt8) × List Int × Int × Int × List Int) ⊕ ((List (List UInt8) × List Int) ⊕ Bool))} {K : List (List UInt8) × List Int → Option Bool}
    {a : List (List UInt8)} {ls : List Int} {g : T44} (ha : a.length ≤ 32000) (hls : ls.length = 1) (hg : validS c g = true) (hz : runS c l g ls a = some z)
    (hb : ∀ (i : Nat) (a : List (List UInt8)) (ls : List Int) (g : T44) (r : T44 × List (List UInt8) × Int), i < l.length → a.length ≤ 32000 * (i + 1) → ls.length = i + 1 → validS c g = true → r = fireR c g ((enabledS c g.Leaf (l.getD i default)).getD 0 default) →
      (divBad c g.Leaf (l.getD i default) = true → b (a, ls, (i : Int), g.Leaf, g.Memory) = some (.inr (.inr (z.2.2 != 0 && ((z.1.length : Int) == 0) && ((z.2.1.length : Int) == 0))))) ∧
      (divBad c g.Leaf (l.getD i default) = false → b (a, ls, (i : Int), g.Leaf, g.Memory) = some (.inl (a ++ r.2.1, ls ++ [r.1.Leaf], ((i + 1 : Nat) : Int), r.1.Leaf, r.1.Memory))))
    (he : ∀ a ls (g : T44), b (a, ls, (l.length : Int), g.Leaf, g.Memory) = some (.inr (.inl (a, ls))))
    (hK : z.2.2 = 0 → K (z.2.1, z.1) = some true) : (loopO b (a, ls, 0, g.Leaf, g.Memory)).bind (onS K) = some true := by
  rcases div_loop H hc (l := l) (z := z) hb he l.length 0 a ls g (by omega) (by omega) (by omega) hg (by rw [List.drop_zero]; exact hz) with ⟨h1, h2⟩ | h1
  · exact on_l h1 (hK h2)
  · exact bind_to h1 rfl
theorem runS_ok {c : T27} (H : Fit c) : ∀ (l : List Int) (g : T44) (ls : List Int) (a : List (List UInt8)), ∃ z, runS c l g ls a = some z ∧ z.1.length ≤ ls.length + l.length ∧ z.2.1.length ≤ a.length + 32000 * l.length := by
  intro l
  induction l with
  | nil => intro g ls a; exact ⟨_, rfl, Nat.le_refl _, Nat.le_refl _⟩
  | cons v l ih =>
    intro g ls a
    obtain ⟨q, hq⟩ := stepM_some c g v
    have h1 := (stepM_ok H hq).1
    unfold runS
    rw [hq, Option.bind_some]
    split
    · exact ⟨_, rfl, by simp, by simp⟩
    · obtain ⟨z, hz, k1, k2⟩ := ih q.1 (ls ++ [q.1.Leaf]) (a ++ q.2.1)
      simp only [List.length_append, List.length_cons, List.length_nil] at k1 k2 ⊢
      exact ⟨z, hz, by omega, by omega⟩
theorem plain9 {c : T27} {l : List Int} (_ : ok27 c) (hv : l.length ≤ maxLen ∧ ∀ b ∈ l, (Lit.int .u16 b).wf = true) : m9 c l = some true := by
  have S := few_small c
  have H := S.fit
  obtain ⟨k, hk, k1, k2⟩ := cut12 l
  have hF : ∀ (g : T44) (t : Int), m31 (fewS c) g t = fireM (fewS c) g t := fun g t => fire_err H
  obtain ⟨r, hr⟩ := startM_some (fewS c)
  obtain ⟨r1, r2⟩ := startM_ok H hr
  obtain ⟨z, hz, z1, z2⟩ : ∃ z, runM (fewS c) k = some z ∧ z.1.length ≤ 1000000 ∧ z.2.1.length ≤ 1000000 := by
    unfold runM; rw [hr, Option.bind_some]
    split
    · exact ⟨_, rfl, by simp, by simp⟩
    · obtain ⟨z, hz, k1, k2⟩ := runS_ok H k ⟨r.2.2.1, r.2.2.2⟩ [r.2.2.1] r.2.1
      simp only [List.length_cons, List.length_nil] at k1
      exact ⟨z, hz, by omega, by omega⟩
  delta m9 d9
  by_cases h0 : r.1 = 0
  · have hz' := hz
    unfold runM at hz'
    rw [hr, Option.bind_some] at hz'
    simp only [h0, bne_self, Bool.false_eq_true, if_false] at hz'
    obtain ⟨hc, hg⟩ := r2 h0
    simp only [↓JD.sg_m, ↓JD.sq_m, ↓JD.sc_m, ↓JD.bk_m, ↓JD.lp_m, ↓JD.cd_m, ↓Tr.run, ↓Tr.run_nd, ↓Tr.run_c3, ↓Tr.run_c2, ↓Tr.run_nx, ↓onS, bind_ite, Option.bind_some, Option.bind_none, obR, awake_true, Few_eq, minQ0 12 (by omega), minQ1, hk, Run_eq _ H k (by omega), hz, Start_eq _ H, hr, h0, bne_self, Enabled_eq _ H, Allowed_eq _ H, Step_eq _ H, hF, eta, Bool.not_false, Bool.not_true, Bool.true_and, Bool.false_eq_true, if_false, if_true, onS_l]
    refine div_all H hc (l := k) (z := z) (a := r.2.1) (ls := [r.2.2.1]) (g := ⟨r.2.2.1, r.2.2.2⟩) (by omega) rfl hg hz' (fun i a ls g q hi ha hls hg hq => ⟨fun hD => ?_, fun hD => ?_⟩) (fun a ls g => ?_) fun h2 => ?_
    · simp only [inL hi, decide_true, Int.toNat_natCast, if_true]
      unfold divBad at hD
      by_cases hl : (((enabledS (fewS c) g.Leaf (k.getD i default)).length : Int) != 1) = true
      · simp only [hl, Bool.not_true, Bool.true_or, Bool.false_eq_true, if_false, if_true, Option.bind_some]
      · have hl := Bool.eq_false_iff.2 hl
        simp only [hl, Bool.false_or] at hD
        simp only [hl, hD, Bool.not_false, Bool.false_or, if_true, Option.bind_some]
    · obtain ⟨e1, e2, e3⟩ := step_good hc hg hD
      have e2' : stepM (fewS c) ⟨g.Leaf, g.Memory⟩ (k.getD i default) = some q := by rw [hq]; exact e2
      have e3' : fireM (fewS c) ⟨g.Leaf, g.Memory⟩ ((enabledS (fewS c) g.Leaf (k.getD i default)).getD 0 default) = some q := by rw [hq]; exact e3
      have e4 : (q.2.2 != 0) = false := by rw [hq]; rfl
      have e5 := stepM_mem H e2'
      have e6 := (stepM_ok H e2').1
      have e7 : (ls.length + 1) * 8 ≤ 140737488355328 := by omega
      have e8 : (0 + a.length) * 16 ≤ 140737488355328 := by omega
      have e9 : (0 + a.length + q.2.1.length) * 16 ≤ 140737488355328 := by omega
      have e10 : (0 : Int) < ((enabledS (fewS c) g.Leaf (k.getD i default)).length : Int) := by omega
      unfold divBad at hD
      simp only [Bool.or_eq_false_iff, Bool.not_eq_false'] at hD
      simp only [inL hi, decide_true, Int.toNat_natCast, if_true, hD.1, hD.2, Bool.not_false, Bool.not_true, Bool.or_false, Bool.false_eq_true, if_false, Option.bind_some, e2', e10, Int.reduceLE, Int.toNat_zero, e3', e4, sameG q.1 (Nat.le_trans e5 (by omega)), sameS _ (Nat.le_trans e6 (by omega)), e7, e8, e9, List.nil_append, wr1 hi (by omega)]; rfl
    · (simp only [lt_irr, decide_false, Bool.false_eq_true, if_false]; try rfl)
    · simp only [h2, beq_self_eq_true, if_true, sameI _ z1, sameS _ z2, Option.bind_some, Bool.true_and]
  · have h0' : (r.1 != 0) = true := by simpa using h0
    have hz' := hz
    unfold runM at hz'
    rw [hr, Option.bind_some] at hz'
    simp only [h0', if_true] at hz'
    injection hz' with hz'; subst hz'
    simp only [↓JD.sg_m, ↓JD.sq_m, ↓JD.sc_m, ↓JD.bk_m, ↓JD.lp_m, ↓JD.cd_m, ↓Tr.run, ↓Tr.run_nd, ↓Tr.run_c3, ↓Tr.run_c2, ↓Tr.run_nx, ↓onS, bind_ite, Option.bind_some, Option.bind_none, obR, awake_true, Few_eq, minQ0 12 (by omega), minQ1, hk, Run_eq _ H k (by omega), hz, Start_eq _ H, hr, h0', beq_self_eq_true, Bool.not_false, Bool.not_true, Bool.true_and, Bool.false_eq_true, if_false, if_true, onS_r]
end Go.Av

/- Plain laws of chart: the beginning, steps and runs. -/
import Derived.Test.YtlpdcjbkbcmahaaGreatDoorChH
set_option linter.unusedSimpArgs false
set_option linter.unusedVariables false
set_option maxRecDepth 100000
namespace Go.Av.Ch
theorem untilS_all {s : Int} {l : List Int} (h : ∀ x ∈ l, x ≠ s) : untilS s l = l := by
  unfold untilS
  induction l with
  | nil => rfl
  | cons x l ih =>
    have hx : (s == x) = false := by simp only [beq_eq_false_iff_ne, ne_eq]; exact fun e => h x (by simp) e.symm
    rw [List.takeWhile_cons, hx, ih fun y hy => h y (List.mem_cons_of_mem _ hy)]; rfl
def startM (c : T48) : Option (Int × List (List UInt8) × Int × List Int) := (checkM c).bind fun e => if (e != 0) = true then some (e, [], 0, []) else some (0, (startS c).2.2, (startS c).1, (startS c).2.1)
theorem Start_eq (c : T48) (H : Fit c) : m45o0 c = startM c := by
  obtain ⟨e, he⟩ := checkM_some c
  unfold startM
  rw [he, Option.bind_some]
  delta m45o0 d45o0
  by_cases h0 : (e != 0) = true
  · simp only [↓JD.sg_m, ↓JD.sq_m, ↓JD.sc_m, ↓JD.bk_m, ↓JD.lp_m, ↓JD.cd_m, ↓JD.lu_m, ↓JD.ct_m, ↓JD.ce_m, ↓JL.r_m, ↓JL.z_m, ↓JD.se_m, onE_r, ↓Tr.run, ↓Tr.run_nd, ↓Tr.run_c3, ↓Tr.run_c2, ↓Tr.run_nx, ↓onS, bind_ite, Option.bind_some, Option.bind_none, obR, Check_eq c H, he, h0, if_true]
  · have h0' : e = 0 := by simpa using h0
    subst h0'
    have G := good_of he
    have hcap := G.cap
    have hrep : m42 [-1] (c.States.length : Int) = some (List.replicate c.States.length (-1)) := by
      unfold m42
      simp only [Int.toNat_natCast]
      rw [if_pos (by omega)]
    have hb := begun_eq H (g := ⟨0, List.replicate c.States.length (-1)⟩) (by simp)
    have hl : (List.replicate c.States.length (-1 : Int)).length = c.States.length := by simp
    have hu : untilS (-1) (pathS c c.Start).tail = (pathS c c.Start).tail := untilS_all fun x hx => by
      have := isS_iff.1 (tail_is x hx); omega
    have hi := into_eq G H G.start (-1) 0 mem_begin (a := []) (by simp)
    rw [hu] at hi
    have hend := (startS_ok G H).1
    have hmend := (validS_iff.1 hend).2.2.len
    simp only [↓JD.sg_m, ↓JD.sq_m, ↓JD.sc_m, ↓JD.bk_m, ↓JD.lp_m, ↓JD.cd_m, ↓JD.lu_m, ↓JD.ct_m, ↓JD.ce_m, ↓JL.r_m, ↓JL.z_m, ↓JD.se_m, onE_r, ↓Tr.run, ↓Tr.run_nd, ↓Tr.run_c3, ↓Tr.run_c2, ↓Tr.run_nx, ↓onS, bind_ite, Option.bind_some, Option.bind_none, obR, Check_eq c H, he, h0, if_false, Bool.false_eq_true, hrep, hb, hl, Int.toNat_natCast, copyL_full hl, hi]
    rw [subL_all (by unfold startS at hmend; exact hmend)]
    rfl
theorem enabled_at {c : T48} {leaf v : Int} (h : 0 < (enabledS c leaf v).length) : ∃ i, i < c.Transitions.length ∧ (enabledS c leaf v).getD 0 default = (i : Int) ∧ hasK (pathS c leaf) (pathS c leaf).length (c.Transitions.getD i default).From = true := by
  have hm : (enabledS c leaf v).getD 0 default ∈ enabledS c leaf v := getD_mem h
  generalize (enabledS c leaf v).getD 0 default = x at *
  unfold enabledS at hm
  obtain ⟨i, hi, hx⟩ := List.mem_flatMap.1 hm
  unfold enabG at hx
  split at hx
  · rename_i h1
    simp only [Bool.and_eq_true] at h1
    exact ⟨i, List.mem_range.1 hi, by simpa using hx, h1.1⟩
  · cases hx
def fireR (c : T48) (g : T71) (t : Int) : T71 × List (List UInt8) × Int := (⟨(fireS c g (c.Transitions.getD t.toNat default)).1, (fireS c g (c.Transitions.getD t.toNat default)).2.1⟩, (fireS c g (c.Transitions.getD t.toNat default)).2.2, 0)
def stepM (c : T48) (g : T71) (v : Int) : Option (T71 × List (List UInt8) × Int) := (checkM c).bind fun e => if (e != 0) = true then some (⟨0, []⟩, [], e) else if (!validS c g) = true then some (⟨0, []⟩, [], 8) else if (!allowedS c v) = true then some (⟨0, []⟩, [], 1) else
  if (((enabledS c g.Leaf v).length : Int) == 0) = true then some (⟨0, []⟩, [], 6) else if (((enabledS c g.Leaf v).length : Int) == 1) = true then some (fireR c g ((enabledS c g.Leaf v).getD 0 default)) else some (⟨0, []⟩, [], 11)
theorem Step_eq (c : T48) (H : Fit c) (g : T71) (v : Int) : m31 c g v = stepM c g v := by
  obtain ⟨e, he⟩ := checkM_some c
  unfold stepM
  rw [he, Option.bind_some]
  delta m31 d31
  by_cases h0 : (e != 0) = true
  · simp only [↓JD.sg_m, ↓JD.sq_m, ↓JD.sc_m, ↓JD.bk_m, ↓JD.lp_m, ↓JD.cd_m, ↓JD.lu_m, ↓JD.ct_m, ↓JD.ce_m, ↓JL.r_m, ↓JL.z_m, ↓JD.se_m, onE_r, ↓Tr.run, ↓Tr.run_nd, ↓Tr.run_c3, ↓Tr.run_c2, ↓Tr.run_nx, ↓onS, bind_ite, Option.bind_some, Option.bind_none, obR, Check_eq c H, he, h0, if_true]
  · have h0' : e = 0 := by simpa using h0
    subst h0'
    simp only [↓JD.sg_m, ↓JD.sq_m, ↓JD.sc_m, ↓JD.bk_m, ↓JD.lp_m, ↓JD.cd_m, ↓JD.lu_m, ↓JD.ct_m, ↓JD.ce_m, ↓JL.r_m, ↓JL.z_m, ↓JD.se_m, onE_r, ↓Tr.run, ↓Tr.run_nd, ↓Tr.run_c3, ↓Tr.run_c2, ↓Tr.run_nx, ↓onS, bind_ite, Option.bind_some, Option.bind_none, obR, Check_eq c H, he, h0, if_false, Bool.false_eq_true, Valid_eq c H, Allowed_eq c H, Enabled_eq c H]
    cases hv : validS c g with
    | false => rfl
    | true =>
      simp only [Bool.not_true, Bool.false_eq_true, if_false]
      refine ite_else (ite_else ?_)
      by_cases h1 : (((enabledS c g.Leaf v).length : Int) == 1) = true
      · have hl : (enabledS c g.Leaf v).length = 1 := by have := eq_of_beq h1; omega
        obtain ⟨i, hi, hx, hon⟩ := enabled_at (c := c) (leaf := g.Leaf) (v := v) (by omega)
        have hz : (0 : Int) < ((enabledS c g.Leaf v).length : Int) := by omega
        simp only [h1, hz, Int.le_refl, if_true, Int.toNat_zero, hx, fire_of (good_of he) H hv hi he hon, fireR, Int.toNat_natCast, Option.bind_some]
      · simp only [h1, if_false, Bool.false_eq_true]
theorem stepM_some (c : T48) (g : T71) (v : Int) : ∃ r, stepM c g v = some r := by
  obtain ⟨e, he⟩ := checkM_some c
  unfold stepM
  rw [he, Option.bind_some]
  exact ite_total (ite_total (ite_total (ite_total (ite_total ⟨_, rfl⟩))))
/-- What a step gives that is one. -/
theorem stepM_ok {c : T48} (H : Fit c) {g : T71} {v : Int} {r : T71 × List (List UInt8) × Int} (h : stepM c g v = some r) : r.2.1.length ≤ 32000 ∧ (r.2.2 = 0 → checkM c = some 0 ∧ validS c g = true ∧ validS c r.1 = true) := by
  obtain ⟨e, he⟩ := checkM_some c
  unfold stepM at h
  rw [he, Option.bind_some] at h
  split at h
  · rename_i h0; injection h with h; subst h; exact ⟨by simp, fun h => absurd h (by simpa using h0)⟩
  rename_i h0
  have h0' : e = 0 := by simpa using h0
  subst h0'
  split at h
  · injection h with h; subst h; exact ⟨by simp, fun h => absurd h (by decide)⟩
  rename_i hv
  have hv : validS c g = true := by simpa using hv
  split at h
  · injection h with h; subst h; exact ⟨by simp, fun h => absurd h (by decide)⟩
  split at h
  · injection h with h; subst h; exact ⟨by simp, fun h => absurd h (by decide)⟩
  split at h
  · rename_i h1
    have hl : (enabledS c g.Leaf v).length = 1 := by have := eq_of_beq h1; omega
    obtain ⟨i, hi, hx, hon⟩ := enabled_at (c := c) (leaf := g.Leaf) (v := v) (by omega)
    injection h with h; subst h
    rw [hx]
    unfold fireR
    rw [Int.toNat_natCast]
    obtain ⟨k1, k2⟩ := fireS_ok (good_of he) H hv hi
    exact ⟨k2, fun _ => ⟨he, hv, k1⟩⟩
  · injection h with h; subst h; exact ⟨by simp, fun h => absurd h (by decide)⟩
/-- A run's steps: leaves, actions and the configuration so far; or the error. -/
def runS (c : T48) : List Int → T71 → List Int → List (List UInt8) → Option (List Int × List (List UInt8) × Int)
  | [], _, ls, a => some (ls, a, 0)
  | v :: l, g, ls, a => (stepM c g v).bind fun r => if (r.2.2 != 0) = true then some ([], [], r.2.2) else runS c l r.1 (ls ++ [r.1.Leaf]) (a ++ r.2.1)
def runM (c : T48) (l : List Int) : Option (List Int × List (List UInt8) × Int) := (startM c).bind fun r => if (r.1 != 0) = true then some ([], [], r.1) else runS c l ⟨r.2.2.1, r.2.2.2⟩ [r.2.2.1] r.2.1
theorem startM_some (c : T48) : ∃ r, startM c = some r := by
  obtain ⟨e, he⟩ := checkM_some c
  unfold startM
  rw [he, Option.bind_some]
  exact ite_total ⟨_, rfl⟩
theorem startM_ok {c : T48} (H : Fit c) {r : Int × List (List UInt8) × Int × List Int} (h : startM c = some r) : r.2.1.length ≤ 16000 ∧ (r.1 = 0 → checkM c = some 0 ∧ validS c ⟨r.2.2.1, r.2.2.2⟩ = true) := by
  obtain ⟨e, he⟩ := checkM_some c
  unfold startM at h
  rw [he, Option.bind_some] at h
  split at h
  · rename_i h0; injection h with h; subst h; exact ⟨by simp, fun h => absurd h (by simpa using h0)⟩
  rename_i h0
  have h0' : e = 0 := by simpa using h0
  subst h0'
  injection h with h; subst h
  obtain ⟨k1, k2⟩ := startS_ok (good_of he) H
  exact ⟨k2, fun _ => ⟨he, k1⟩⟩
/-- The loop of a run, in both packages. -/
theorem run_loop {c : T48} (H : Fit c) {l : List Int} {S X : Type} {b : S → Option (S ⊕ X)} (mk : List (List UInt8) → List Int → Int → T71 → S) (ok : List (List UInt8) → List Int → X) (bad : Int → X)
    (hb : ∀ (i : Nat) (a : List (List UInt8)) (ls : List Int) (g : T71), i < l.length → a.length ≤ 32000 * (i + 1) → ls.length = i + 1 → b (mk a ls i g) = (stepM c g (l.getD i default)).bind fun r => if (r.2.2 != 0) = true then some (.inr (bad r.2.2)) else some (.inl (mk (a ++ r.2.1) (ls ++ [r.1.Leaf]) ((i + 1 : Nat) : Int) r.1)))
    (he : ∀ a ls g, b (mk a ls (l.length : Int) g) = some (.inr (ok a ls))) :
    ∀ (k i : Nat) (a : List (List UInt8)) (ls : List Int) (g : T71), i + k = l.length → a.length ≤ 32000 * (i + 1) → ls.length = i + 1 →
      loopO b (mk a ls i g) = (runS c (l.drop i) g ls a).map fun r => if (r.2.2 != 0) = true then bad r.2.2 else ok r.2.1 r.1 := by
  intro k
  induction k with
  | zero =>
    intro i a ls g hk ha hls
    obtain rfl : i = l.length := by omega
    rw [loopO_eq, he, List.drop_length]; rfl
  | succ k ih =>
    intro i a ls g hk ha hls
    have hi : i < l.length := by omega
    rw [loopO_eq, hb i a ls g hi ha hls, List.drop_eq_getElem_cons hi]
    obtain ⟨r, hr⟩ := stepM_some c g (l.getD i default)
    have hr' := hr
    rw [List.getD_eq_getElem?_getD, List.getElem?_eq_getElem hi, Option.getD_some] at hr'
    unfold runS
    rw [hr, hr', Option.bind_some, Option.bind_some]
    by_cases h0 : (r.2.2 != 0) = true
    · simp only [h0, if_true, Option.bind_some, Option.map_some]
    · simp only [h0, if_false, Bool.false_eq_true, Option.bind_some]
      have := (stepM_ok H hr).1
      exact ih (i + 1) _ _ _ (by omega) (by rw [List.length_append]; omega) (by rw [List.length_append, hls]; rfl)
theorem run_end {c : T48} {l : List Int} {g : T71} {ls : List Int} {a : List (List UInt8)} :
    ((runS c l g ls a).map fun r => if (r.2.2 != 0) = true then (.inr ([], [], r.2.2) : (List (List UInt8) × List Int) ⊕ (List Int × List (List UInt8) × Int)) else .inl (r.2.1, r.1)).bind (onS fun y => some (y.2, y.1, 0)) = runS c l g ls a := by
  have key : ∀ (l : List Int) (g : T71) (ls : List Int) (a : List (List UInt8)), ∀ z, runS c l g ls a = some z → (z.2.2 ≠ 0 → z = ([], [], z.2.2)) := by
    intro l
    induction l with
    | nil => intro g ls a z hz; unfold runS at hz; injection hz with hz; subst hz; intro h; exact absurd rfl h
    | cons v l ih =>
      intro g ls a z hz
      unfold runS at hz
      obtain ⟨q, hq⟩ := stepM_some c g v
      rw [hq, Option.bind_some] at hz
      split at hz
      · injection hz with hz; subst hz; intro _; rfl
      · exact ih _ _ _ z hz
  cases hz : runS c l g ls a with
  | none => rfl
  | some z =>
    simp only [Option.map_some, Option.bind_some]
    by_cases h1 : (z.2.2 != 0) = true
    · rw [if_pos h1, onS_r, key _ _ _ _ z hz (by simpa using h1)]
    · rw [if_neg h1, onS_l]
      have : z.2.2 = 0 := by simpa using h1
      rw [← this]
theorem Run_eq (c : T48) (H : Fit c) (l : List Int) (hl : l.length ≤ 1000) : m20 c l = runM c l := by
  obtain ⟨r, hr⟩ := startM_some c
  unfold runM
  rw [hr, Option.bind_some]
  have ha := (startM_ok H hr).1
  delta m20 d20
  by_cases h0 : (r.1 != 0) = true
  · simp only [↓JD.sg_m, ↓JD.sq_m, ↓JD.sc_m, ↓JD.bk_m, ↓JD.lp_m, ↓JD.cd_m, ↓JD.lu_m, ↓JD.ct_m, ↓JD.ce_m, ↓JL.r_m, ↓JL.z_m, ↓JD.se_m, onE_r, ↓Tr.run, ↓Tr.run_nd, ↓Tr.run_c3, ↓Tr.run_c2, ↓Tr.run_nx, ↓onS, bind_ite, Option.bind_some, Option.bind_none, obR, Start_eq c H, hr, h0, if_true, onS_r]
  · simp only [↓JD.sg_m, ↓JD.sq_m, ↓JD.sc_m, ↓JD.bk_m, ↓JD.lp_m, ↓JD.cd_m, ↓JD.lu_m, ↓JD.ct_m, ↓JD.ce_m, ↓JL.r_m, ↓JL.z_m, ↓JD.se_m, onE_r, ↓Tr.run, ↓Tr.run_nd, ↓Tr.run_c3, ↓Tr.run_c2, ↓Tr.run_nx, ↓onS, bind_ite, Option.bind_some, Option.bind_none, obR, Start_eq c H, hr, h0, if_false, Bool.false_eq_true, onS_l]
    refine bind_eq (run_loop H (l := l) (X := (List (List UInt8) × List Int) ⊕ (List Int × List (List UInt8) × Int)) (fun a ls i g => (a, ls, i, g.Leaf, g.Memory)) (fun a ls => .inl (a, ls)) (fun e => .inr ([], [], e)) ?_ ?_ l.length 0 r.2.1 [r.2.2.1] ⟨r.2.2.1, r.2.2.2⟩ (by omega) (by omega) rfl) ?_
    rotate_left 2
    · rw [List.drop_zero]
      exact run_end
    · intro i a ls g hi ha hls
      have h1 : (ls.length + 1) * 8 ≤ 140737488355328 := by omega
      obtain ⟨q, hq⟩ := stepM_some c g (l.getD i default)
      have hq2 := (stepM_ok H hq).1
      have h2 : (a.length + q.2.1.length) * 16 ≤ 140737488355328 := by omega
      have hq' : m31 c ⟨g.Leaf, g.Memory⟩ (l.getD i default) = some q := by rw [Step_eq c H]; exact hq
      simp only [inL hi, decide_true, Int.toNat_natCast, if_true, hq, hq', h1, h2, wr1 hi (by omega), Option.bind_some]; rfl
    · intro a ls g; (simp only [lt_irr, decide_false, Bool.false_eq_true, if_false]; try rfl)
end Go.Av.Ch

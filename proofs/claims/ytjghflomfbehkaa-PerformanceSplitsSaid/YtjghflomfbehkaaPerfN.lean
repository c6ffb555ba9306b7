/- Valid tables; the functions of an altitude and a mass. -/
import Derived.Test.YtjghflomfbehkaaPerfM
set_option linter.unusedSimpArgs false
namespace Go.Av
theorem inL_iff {lo hi : Int} {l : List Int} (h : inL lo hi l = true) : ∀ i, i < l.length → lo ≤ gi l i ∧ gi l i ≤ hi := fun i hi' => by
  unfold inL at h
  have := allR_iff.1 h i (Nat.zero_le _) hi'
  unfold gi
  simpa only [Bool.and_eq_true, decide_eq_true_eq] using this
theorem inI_iff {lo hi x : Int} (h : inI lo hi x = true) : lo ≤ x ∧ x ≤ hi := by
  unfold inI at h
  simpa only [Bool.and_eq_true, decide_eq_true_eq] using h
theorem inT_iff {lo hi : Int} {t : List (List Int)} (h0 : lo ≤ 0 ∧ 0 ≤ hi) (h : inT lo hi t = true) (i j : Nat) : lo ≤ tb t i j ∧ tb t i j ≤ hi := by
  unfold inT at h
  by_cases hi' : i < t.length
  · exact gi_all (p := fun y => lo ≤ y ∧ y ≤ hi) h0 (inL_iff (allR_iff.1 h i (Nat.zero_le _) hi')) j
  · have e : t.getD i default = [] := by rw [List.getD_eq_getElem?_getD, List.getElem?_eq_none (by omega)]; rfl
    unfold tb
    rw [e]; exact h0
theorem asc_of {l : List Int} (h : ascL l = true) : Asc l := by
  unfold ascL at h
  have h1 : ∀ i, 1 ≤ i → i < l.length → gi l (i - 1) < gi l i := fun i a b => by
    have := allR_iff.1 h i a b
    simp only [Bool.not_eq_true', decide_eq_false_iff_not] at this
    unfold gi; omega
  have : ∀ (d i : Nat), i + (d + 1) < l.length → gi l i < gi l (i + (d + 1)) := by
    intro d
    induction d with
    | zero => intro i hi; simpa using h1 (i + 1) (by omega) hi
    | succ d ih =>
      intro i hi
      have a := ih i (by omega)
      have b := h1 (i + (d + 1) + 1) (by omega) (by omega)
      rw [Nat.add_sub_cancel] at b
      exact Int.lt_trans a b
  intro i j hij hj
  have e : i + ((j - i - 1) + 1) = j := by omega
  have := this (j - i - 1) i (by omega)
  rwa [e] at this
theorem ris_iff {sg : Int} {l : List Int} (h : risL sg l = true) : ∀ i, 0 < i → i < l.length → sg * gi l (i - 1) ≤ sg * gi l i := fun i a b => by
  unfold risL at h
  have := allR_iff.1 h i a b
  simp only [Bool.not_eq_true', decide_eq_false_iff_not] at this
  unfold gi; omega
theorem lean_iff {sg : Int} {t : List (List Int)} {m : Nat} (hs : Sh m t) (h : leanT sg t = true) : (∀ i j, i < t.length → 0 < j → j < m → sg * tb t i (j - 1) ≤ sg * tb t i j) ∧ ∀ i j, 0 < i → i < t.length → j < m → tb t i j ≤ tb t (i - 1) j := by
  unfold leanT at h
  refine ⟨fun i j hi h0 hj => ?_, fun i j h0 hi hj => ?_⟩
  · have := allR_iff.1 h i (Nat.zero_le _) hi
    rw [Bool.and_eq_true] at this
    exact ris_iff this.1 j h0 (by rw [hs i hi]; exact hj)
  · have := allR_iff.1 h i (Nat.zero_le _) hi
    rw [Bool.and_eq_true] at this
    have h2 := this.2
    unfold downT at h2
    have h3 := allR_iff.1 h2 j (Nat.zero_le _) (by rw [hs i hi]; exact hj)
    simp only [h0, decide_true, Bool.true_and, Bool.not_eq_true', decide_eq_false_iff_not] at h3
    omega
structure GoodP (p : T25) : Prop where
  A : POk p.Alts
  M : POk p.Masses
  tC : TOk p.Alts p.Masses p.Climb
  tF : TOk p.Alts p.Masses p.ClimbFlow
  tR : TOk p.Alts p.Masses p.Cruise
  bR : ∀ i j, tb p.Cruise i j ≤ 50000
  lD : p.Descent.length = p.Alts.length
  bD : ∀ i, i < p.Descent.length → 1 ≤ gi p.Descent i ∧ gi p.Descent i ≤ 10000
  lI : p.Idle.length = p.Alts.length
  bI : ∀ i, i < p.Idle.length → 0 ≤ gi p.Idle i ∧ gi p.Idle i ≤ 50000
  lX : p.MaxSpeed.length = p.Alts.length
  bX : ∀ i, i < p.MaxSpeed.length → 1 ≤ gi p.MaxSpeed i ∧ gi p.MaxSpeed i ≤ 1000
  ln : p.MinSpeed.length = p.Masses.length
  bn : ∀ i, i < p.MinSpeed.length → 1 ≤ gi p.MinSpeed i ∧ gi p.MinSpeed i ≤ 1000
  ceil : -200000 ≤ p.Ceiling ∧ p.Ceiling ≤ 6000000
  ref : 1 ≤ p.Ref ∧ p.Ref ≤ 1000
  ext : 0 ≤ p.Extra ∧ p.Extra ≤ 100
  cM : ∀ i j, i < p.Alts.length → 0 < j → j < p.Masses.length → tb p.Climb i j ≤ tb p.Climb i (j - 1)
  cA : ∀ i j, 0 < i → i < p.Alts.length → j < p.Masses.length → tb p.Climb i j ≤ tb p.Climb (i - 1) j
  cG : ∀ i j, 0 < i → i < p.Alts.length → j < p.Masses.length → tb p.Climb (i - 1) j - tb p.Climb i j ≤ gi p.Alts i - gi p.Alts (i - 1)
  fM : ∀ i j, i < p.Alts.length → 0 < j → j < p.Masses.length → tb p.ClimbFlow i (j - 1) ≤ tb p.ClimbFlow i j
  fA : ∀ i j, 0 < i → i < p.Alts.length → j < p.Masses.length → tb p.ClimbFlow i j ≤ tb p.ClimbFlow (i - 1) j
  rM : ∀ i j, i < p.Alts.length → 0 < j → j < p.Masses.length → tb p.Cruise i (j - 1) ≤ tb p.Cruise i j
  rA : ∀ i j, 0 < i → i < p.Alts.length → j < p.Masses.length → tb p.Cruise i j ≤ tb p.Cruise (i - 1) j
  dD : ∀ i, 0 < i → i < p.Alts.length → gi p.Descent (i - 1) ≤ gi p.Descent i
theorem facts {p : T25} (h : good p = true) : GoodP p := by
  unfold good at h
  simp only [Bool.and_eq_true] at h
  obtain ⟨⟨⟨⟨⟨⟨⟨⟨⟨⟨⟨⟨⟨⟨⟨⟨⟨⟨⟨⟨⟨⟨⟨⟨⟨⟨⟨⟨⟨⟨c0, c1⟩, c2⟩, c3⟩, c4⟩, c5⟩, c6⟩, c7⟩, c8⟩, c9⟩, c10⟩, c11⟩, c12⟩, c13⟩, c14⟩, c15⟩, c16⟩, c17⟩, c18⟩, c19⟩, c20⟩, c21⟩, c22⟩, c23⟩, c24⟩, c25⟩, c26⟩, c27⟩, c28⟩, c29⟩, c30⟩ := h
  have lA := inI_iff c3
  have lM := inI_iff c4
  simp only [Bool.not_eq_true', Bool.or_eq_false_iff, bne_eq_false_iff_eq] at c8
  obtain ⟨⟨⟨e1, e2⟩, e3⟩, e4⟩ := c8
  have A : POk p.Alts := ⟨by unfold maxLen; omega, by omega, by omega, asc_of c9, gi_all (p := fun y => -10000000000 ≤ y ∧ y ≤ 10000000000) (by omega) fun i hi => by have := inL_iff c11 i hi; omega⟩
  have M : POk p.Masses := ⟨by unfold maxLen; omega, by omega, by omega, asc_of c10, gi_all (p := fun y => -10000000000 ≤ y ∧ y ≤ 10000000000) (by omega) fun i hi => by have := inL_iff c13 i hi; omega⟩
  have sC := sh_of c5
  have sF := sh_of c6
  have sR := sh_of c7
  have l1 := lean_iff sC.1 c23
  have l2 := lean_iff sF.1 c25
  have l3 := lean_iff sR.1 c26
  rw [sC.2] at l1
  rw [sF.2] at l2
  rw [sR.2] at l3
  exact {
    A := A, M := M
    tC := ⟨A, M, sC.2, sC.1, fun i j => by have := inT_iff (by omega) c14 i j; omega⟩
    tF := ⟨A, M, sF.2, sF.1, fun i j => by have := inT_iff (by omega) c16 i j; omega⟩
    tR := ⟨A, M, sR.2, sR.1, fun i j => by have := inT_iff (by omega) c17 i j; omega⟩
    bR := fun i j => (inT_iff (by omega) c17 i j).2
    lD := by omega, bD := inL_iff c15, lI := by omega, bI := inL_iff c18, lX := by omega, bX := inL_iff c19, ln := by omega, bn := inL_iff c20
    ceil := inI_iff c12, ref := inI_iff c21, ext := inI_iff c22
    cM := fun i j a b c => by have := l1.1 i j a b c; omega
    cA := l1.2
    cG := fun i j a b c => by
      unfold gentT at c24
      have h1 := allR_iff.1 c24 i a b
      unfold gentR at h1
      have h2 := allR_iff.1 h1 j (Nat.zero_le _) (by rw [sC.1 i (by rw [sC.2]; exact b)]; exact c)
      have h3 : ¬ gap p i j := by simpa using h2
      unfold gap at h3
      unfold gi; omega
    fM := fun i j a b c => by have := l2.1 i j a b c; omega
    fA := l2.2
    rM := fun i j a b c => by have := l3.1 i j a b c; omega
    rA := l3.2
    dD := fun i a b => by have := ris_iff c27 i a (by omega); omega }
/-- An altitude and a mass that the functions take. -/
def rng (alt mass : Int) : Bool := inI (-200000) 6000000 alt && inI 1 3000000000 mass
/-- What the functions answer first: an error, or that all is well. -/
theorem ready {p : T25} (h : ok25 p) (alt mass : Int) : ∃ c, m49 p alt mass = some c ∧ m51 p alt mass = some c ∧ (c = 0 ↔ (good p = true ∧ rng alt mass = true)) := by
  obtain ⟨c, h1, h2, h3⟩ := both h
  by_cases hc : c = 0
  · have g := h3.1 hc
    subst hc
    have z : ((0 : Int) != 0) = false := rfl
    have r : (((decide (alt < (-200000 : Int)) || decide ((6000000 : Int) < alt)) || decide (mass < (1 : Int))) || decide ((3000000000 : Int) < mass)) = !rng alt mass := by
      rw [Bool.or_assoc, inI1, inI1]; unfold rng; cases inI (-200000) 6000000 alt <;> cases inI 1 3000000000 mass <;> rfl
    have one : ∀ x y, inI (-200000) 6000000 alt = x → inI 1 3000000000 mass = y → ∃ c, m49 p alt mass = some c ∧ m51 p alt mass = some c ∧ (c = 0 ↔ (good p = true ∧ rng alt mass = true)) := fun x y a b => by
      have q : rng alt mass = (x && y) := by unfold rng; rw [a, b]
      refine ⟨if (x && y) = true then 0 else 2, ?_, ?_, ?_⟩
      · simp only [m49_1, m49, h1, z, s32', a, b, decide_true, decide_false, Bool.false_eq_true, if_true, if_false, Bool.not_true, Bool.not_false, Bool.or_true, Bool.or_false, Bool.true_or, Bool.false_or, Bool.and_true, Bool.and_false, Bool.true_and, Bool.false_and, Option.bind_some, true_implies, false_implies, implies_true]
        cases x <;> cases y <;> rfl
      · simp only [m51_1, m51, h2, z, r, q, decide_true, decide_false, Bool.false_eq_true, if_true, if_false, Bool.not_true, Bool.not_false, Bool.or_true, Bool.or_false, Bool.true_or, Bool.false_or, Bool.and_true, Bool.and_false, Bool.true_and, Bool.false_and, Option.bind_some, true_implies, false_implies, implies_true]
        cases x <;> cases y <;> rfl
      · rw [q, g]
        cases x <;> cases y <;> decide
    exact one _ _ rfl rfl
  · have z : (c != 0) = true := by simpa using hc
    refine ⟨c, ?_, ?_, ⟨fun e => absurd e hc, fun e => absurd (h3.2 e.1) hc⟩⟩
    · simp only [m49_1, m49, h1, z, decide_true, decide_false, Bool.false_eq_true, if_true, if_false, Bool.not_true, Bool.not_false, Bool.or_true, Bool.or_false, Bool.true_or, Bool.false_or, Bool.and_true, Bool.and_false, Bool.true_and, Bool.false_and, Option.bind_some, true_implies, false_implies, implies_true]
    · simp only [m51_1, m51, h2, z, decide_true, decide_false, Bool.false_eq_true, if_true, if_false, Bool.not_true, Bool.not_false, Bool.or_true, Bool.or_false, Bool.true_or, Bool.false_or, Bool.and_true, Bool.and_false, Bool.true_and, Bool.false_and, Option.bind_some, true_implies, false_implies, implies_true]
theorem rng_b {alt mass : Int} (h : rng alt mass = true) : (-200000 ≤ alt ∧ alt ≤ 6000000) ∧ 1 ≤ mass ∧ mass ≤ 3000000000 := by
  unfold rng at h
  rw [Bool.and_eq_true] at h
  exact ⟨inI_iff h.1, inI_iff h.2⟩
theorem q18 {p : T25} (h : ok25 p) (alt mass : Int) : ∃ r, m18 p alt mass = some r ∧ m21 p alt mass = some r ∧ (r.2 = 0 ↔ (good p = true ∧ rng alt mass = true)) ∧ (r.2 = 0 → r.1 = T p.Alts p.Masses p.Climb alt mass) ∧ (r.2 ≠ 0 → r.1 = 0) := by
  obtain ⟨c, h1, h2, h3⟩ := ready h alt mass
  by_cases hc : c = 0
  · obtain ⟨g, hr⟩ := h3.1 hc
    have F := facts g
    obtain ⟨r1, r2⟩ := rng_b hr
    subst hc
    have z : ((0 : Int) != 0) = false := rfl
    have e1 := t50 F.tC (alt := alt) (mass := mass) (by omega) (by omega)
    have e2 := t52 F.tC (alt := alt) (mass := mass) (by omega) (by omega)
    exact ⟨(T p.Alts p.Masses p.Climb alt mass, 0), by simp only [m18_1, m18, h1, z, e1, decide_true, decide_false, Bool.false_eq_true, if_true, if_false, Bool.not_true, Bool.not_false, Bool.or_true, Bool.or_false, Bool.true_or, Bool.false_or, Bool.and_true, Bool.and_false, Bool.true_and, Bool.false_and, Option.bind_some, true_implies, false_implies, implies_true], by simp only [m21_1, m21, h2, z, e2, decide_true, decide_false, Bool.false_eq_true, if_true, if_false, Bool.not_true, Bool.not_false, Bool.or_true, Bool.or_false, Bool.true_or, Bool.false_or, Bool.and_true, Bool.and_false, Bool.true_and, Bool.false_and, Option.bind_some, true_implies, false_implies, implies_true], ⟨fun _ => ⟨g, hr⟩, fun _ => rfl⟩, fun _ => rfl, fun e => absurd rfl e⟩
  · have z : (c != 0) = true := by simpa using hc
    exact ⟨(0, c), by simp only [m18_1, m18, h1, z, decide_true, decide_false, Bool.false_eq_true, if_true, if_false, Bool.not_true, Bool.not_false, Bool.or_true, Bool.or_false, Bool.true_or, Bool.false_or, Bool.and_true, Bool.and_false, Bool.true_and, Bool.false_and, Option.bind_some, true_implies, false_implies, implies_true], by simp only [m21_1, m21, h2, z, decide_true, decide_false, Bool.false_eq_true, if_true, if_false, Bool.not_true, Bool.not_false, Bool.or_true, Bool.or_false, Bool.true_or, Bool.false_or, Bool.and_true, Bool.and_false, Bool.true_and, Bool.false_and, Option.bind_some, true_implies, false_implies, implies_true], h3, fun e => absurd e hc, fun _ => rfl⟩
theorem q19 {p : T25} (h : ok25 p) (alt mass : Int) : ∃ r, m19 p alt mass = some r ∧ m22 p alt mass = some r ∧ (r.2 = 0 ↔ (good p = true ∧ rng alt mass = true)) ∧ (r.2 = 0 → r.1 = T p.Alts p.Masses p.ClimbFlow alt mass) ∧ (r.2 ≠ 0 → r.1 = 0) := by
  obtain ⟨c, h1, h2, h3⟩ := ready h alt mass
  by_cases hc : c = 0
  · obtain ⟨g, hr⟩ := h3.1 hc
    have F := facts g
    obtain ⟨r1, r2⟩ := rng_b hr
    subst hc
    have z : ((0 : Int) != 0) = false := rfl
    have e1 := t50 F.tF (alt := alt) (mass := mass) (by omega) (by omega)
    have e2 := t52 F.tF (alt := alt) (mass := mass) (by omega) (by omega)
    exact ⟨(T p.Alts p.Masses p.ClimbFlow alt mass, 0), by simp only [m19_1, m19, h1, z, e1, decide_true, decide_false, Bool.false_eq_true, if_true, if_false, Bool.not_true, Bool.not_false, Bool.or_true, Bool.or_false, Bool.true_or, Bool.false_or, Bool.and_true, Bool.and_false, Bool.true_and, Bool.false_and, Option.bind_some, true_implies, false_implies, implies_true], by simp only [m22_1, m22, h2, z, e2, decide_true, decide_false, Bool.false_eq_true, if_true, if_false, Bool.not_true, Bool.not_false, Bool.or_true, Bool.or_false, Bool.true_or, Bool.false_or, Bool.and_true, Bool.and_false, Bool.true_and, Bool.false_and, Option.bind_some, true_implies, false_implies, implies_true], ⟨fun _ => ⟨g, hr⟩, fun _ => rfl⟩, fun _ => rfl, fun e => absurd rfl e⟩
  · have z : (c != 0) = true := by simpa using hc
    exact ⟨(0, c), by simp only [m19_1, m19, h1, z, decide_true, decide_false, Bool.false_eq_true, if_true, if_false, Bool.not_true, Bool.not_false, Bool.or_true, Bool.or_false, Bool.true_or, Bool.false_or, Bool.and_true, Bool.and_false, Bool.true_and, Bool.false_and, Option.bind_some, true_implies, false_implies, implies_true], by simp only [m22_1, m22, h2, z, decide_true, decide_false, Bool.false_eq_true, if_true, if_false, Bool.not_true, Bool.not_false, Bool.or_true, Bool.or_false, Bool.true_or, Bool.false_or, Bool.and_true, Bool.and_false, Bool.true_and, Bool.false_and, Option.bind_some, true_implies, false_implies, implies_true], h3, fun e => absurd e hc, fun _ => rfl⟩
theorem q20 {p : T25} (h : ok25 p) (alt : Int) : ∃ r, m20 p alt = some r ∧ m23 p alt = some r ∧ (r.2 = 0 ↔ (good p = true ∧ rng alt 1 = true)) ∧ (r.2 = 0 → r.1 = V p.Alts p.Descent alt) ∧ (r.2 ≠ 0 → r.1 = 0) := by
  obtain ⟨c, h1, h2, h3⟩ := ready h alt 1
  by_cases hc : c = 0
  · obtain ⟨g, hr⟩ := h3.1 hc
    have F := facts g
    obtain ⟨r1, r2⟩ := rng_b hr
    subst hc
    have z : ((0 : Int) != 0) = false := rfl
    have e1 := v53 (vb_of F.A F.lD (fun i hi => by have := F.bD i hi; omega) (x := alt) (by omega))
    have e2 := v54 (vb_of F.A F.lD (fun i hi => by have := F.bD i hi; omega) (x := alt) (by omega))
    exact ⟨(V p.Alts p.Descent alt, 0), by simp only [m20_1, m20, h1, z, e1, decide_true, decide_false, Bool.false_eq_true, if_true, if_false, Bool.not_true, Bool.not_false, Bool.or_true, Bool.or_false, Bool.true_or, Bool.false_or, Bool.and_true, Bool.and_false, Bool.true_and, Bool.false_and, Option.bind_some, true_implies, false_implies, implies_true], by simp only [m23_1, m23, h2, z, e2, decide_true, decide_false, Bool.false_eq_true, if_true, if_false, Bool.not_true, Bool.not_false, Bool.or_true, Bool.or_false, Bool.true_or, Bool.false_or, Bool.and_true, Bool.and_false, Bool.true_and, Bool.false_and, Option.bind_some, true_implies, false_implies, implies_true], ⟨fun _ => ⟨g, hr⟩, fun _ => rfl⟩, fun _ => rfl, fun e => absurd rfl e⟩
  · have z : (c != 0) = true := by simpa using hc
    exact ⟨(0, c), by simp only [m20_1, m20, h1, z, decide_true, decide_false, Bool.false_eq_true, if_true, if_false, Bool.not_true, Bool.not_false, Bool.or_true, Bool.or_false, Bool.true_or, Bool.false_or, Bool.and_true, Bool.and_false, Bool.true_and, Bool.false_and, Option.bind_some, true_implies, false_implies, implies_true], by simp only [m23_1, m23, h2, z, decide_true, decide_false, Bool.false_eq_true, if_true, if_false, Bool.not_true, Bool.not_false, Bool.or_true, Bool.or_false, Bool.true_or, Bool.false_or, Bool.and_true, Bool.and_false, Bool.true_and, Bool.false_and, Option.bind_some, true_implies, false_implies, implies_true], h3, fun e => absurd e hc, fun _ => rfl⟩
theorem q24 {p : T25} (h : ok25 p) (alt : Int) : ∃ r, m24 p alt = some r ∧ m25 p alt = some r ∧ (r.2 = 0 ↔ (good p = true ∧ rng alt 1 = true)) ∧ (r.2 = 0 → r.1 = V p.Alts p.Idle alt) ∧ (r.2 ≠ 0 → r.1 = 0) := by
  obtain ⟨c, h1, h2, h3⟩ := ready h alt 1
  by_cases hc : c = 0
  · obtain ⟨g, hr⟩ := h3.1 hc
    have F := facts g
    obtain ⟨r1, r2⟩ := rng_b hr
    subst hc
    have z : ((0 : Int) != 0) = false := rfl
    have e1 := v53 (vb_of F.A F.lI (fun i hi => by have := F.bI i hi; omega) (x := alt) (by omega))
    have e2 := v54 (vb_of F.A F.lI (fun i hi => by have := F.bI i hi; omega) (x := alt) (by omega))
    exact ⟨(V p.Alts p.Idle alt, 0), by simp only [m24_1, m24, h1, z, e1, decide_true, decide_false, Bool.false_eq_true, if_true, if_false, Bool.not_true, Bool.not_false, Bool.or_true, Bool.or_false, Bool.true_or, Bool.false_or, Bool.and_true, Bool.and_false, Bool.true_and, Bool.false_and, Option.bind_some, true_implies, false_implies, implies_true], by simp only [m25_1, m25, h2, z, e2, decide_true, decide_false, Bool.false_eq_true, if_true, if_false, Bool.not_true, Bool.not_false, Bool.or_true, Bool.or_false, Bool.true_or, Bool.false_or, Bool.and_true, Bool.and_false, Bool.true_and, Bool.false_and, Option.bind_some, true_implies, false_implies, implies_true], ⟨fun _ => ⟨g, hr⟩, fun _ => rfl⟩, fun _ => rfl, fun e => absurd rfl e⟩
  · have z : (c != 0) = true := by simpa using hc
    exact ⟨(0, c), by simp only [m24_1, m24, h1, z, decide_true, decide_false, Bool.false_eq_true, if_true, if_false, Bool.not_true, Bool.not_false, Bool.or_true, Bool.or_false, Bool.true_or, Bool.false_or, Bool.and_true, Bool.and_false, Bool.true_and, Bool.false_and, Option.bind_some, true_implies, false_implies, implies_true], by simp only [m25_1, m25, h2, z, decide_true, decide_false, Bool.false_eq_true, if_true, if_false, Bool.not_true, Bool.not_false, Bool.or_true, Bool.or_false, Bool.true_or, Bool.false_or, Bool.and_true, Bool.and_false, Bool.true_and, Bool.false_and, Option.bind_some, true_implies, false_implies, implies_true], h3, fun e => absurd e hc, fun _ => rfl⟩
theorem q26 {p : T25} (h : ok25 p) (alt : Int) : ∃ r, m26 p alt = some r ∧ m27 p alt = some r ∧ (r.2 = 0 ↔ (good p = true ∧ rng alt 1 = true)) ∧ (r.2 = 0 → r.1 = V p.Alts p.MaxSpeed alt) ∧ (r.2 ≠ 0 → r.1 = 0) := by
  obtain ⟨c, h1, h2, h3⟩ := ready h alt 1
  by_cases hc : c = 0
  · obtain ⟨g, hr⟩ := h3.1 hc
    have F := facts g
    obtain ⟨r1, r2⟩ := rng_b hr
    subst hc
    have z : ((0 : Int) != 0) = false := rfl
    have e1 := v53 (vb_of F.A F.lX (fun i hi => by have := F.bX i hi; omega) (x := alt) (by omega))
    have e2 := v54 (vb_of F.A F.lX (fun i hi => by have := F.bX i hi; omega) (x := alt) (by omega))
    exact ⟨(V p.Alts p.MaxSpeed alt, 0), by simp only [m26_1, m26, h1, z, e1, decide_true, decide_false, Bool.false_eq_true, if_true, if_false, Bool.not_true, Bool.not_false, Bool.or_true, Bool.or_false, Bool.true_or, Bool.false_or, Bool.and_true, Bool.and_false, Bool.true_and, Bool.false_and, Option.bind_some, true_implies, false_implies, implies_true], by simp only [m27_1, m27, h2, z, e2, decide_true, decide_false, Bool.false_eq_true, if_true, if_false, Bool.not_true, Bool.not_false, Bool.or_true, Bool.or_false, Bool.true_or, Bool.false_or, Bool.and_true, Bool.and_false, Bool.true_and, Bool.false_and, Option.bind_some, true_implies, false_implies, implies_true], ⟨fun _ => ⟨g, hr⟩, fun _ => rfl⟩, fun _ => rfl, fun e => absurd rfl e⟩
  · have z : (c != 0) = true := by simpa using hc
    exact ⟨(0, c), by simp only [m26_1, m26, h1, z, decide_true, decide_false, Bool.false_eq_true, if_true, if_false, Bool.not_true, Bool.not_false, Bool.or_true, Bool.or_false, Bool.true_or, Bool.false_or, Bool.and_true, Bool.and_false, Bool.true_and, Bool.false_and, Option.bind_some, true_implies, false_implies, implies_true], by simp only [m27_1, m27, h2, z, decide_true, decide_false, Bool.false_eq_true, if_true, if_false, Bool.not_true, Bool.not_false, Bool.or_true, Bool.or_false, Bool.true_or, Bool.false_or, Bool.and_true, Bool.and_false, Bool.true_and, Bool.false_and, Option.bind_some, true_implies, false_implies, implies_true], h3, fun e => absurd e hc, fun _ => rfl⟩
theorem q28 {p : T25} (h : ok25 p) (mass : Int) : ∃ r, m28 p mass = some r ∧ m29 p mass = some r ∧ (r.2 = 0 ↔ (good p = true ∧ rng 0 mass = true)) ∧ (r.2 = 0 → r.1 = V p.Masses p.MinSpeed mass) ∧ (r.2 ≠ 0 → r.1 = 0) := by
  obtain ⟨c, h1, h2, h3⟩ := ready h 0 mass
  by_cases hc : c = 0
  · obtain ⟨g, hr⟩ := h3.1 hc
    have F := facts g
    obtain ⟨r1, r2⟩ := rng_b hr
    subst hc
    have z : ((0 : Int) != 0) = false := rfl
    have e1 := v53 (vb_of F.M F.ln (fun i hi => by have := F.bn i hi; omega) (x := mass) (by omega))
    have e2 := v54 (vb_of F.M F.ln (fun i hi => by have := F.bn i hi; omega) (x := mass) (by omega))
    exact ⟨(V p.Masses p.MinSpeed mass, 0), by simp only [m28_1, m28, h1, z, e1, decide_true, decide_false, Bool.false_eq_true, if_true, if_false, Bool.not_true, Bool.not_false, Bool.or_true, Bool.or_false, Bool.true_or, Bool.false_or, Bool.and_true, Bool.and_false, Bool.true_and, Bool.false_and, Option.bind_some, true_implies, false_implies, implies_true], by simp only [m29_1, m29, h2, z, e2, decide_true, decide_false, Bool.false_eq_true, if_true, if_false, Bool.not_true, Bool.not_false, Bool.or_true, Bool.or_false, Bool.true_or, Bool.false_or, Bool.and_true, Bool.and_false, Bool.true_and, Bool.false_and, Option.bind_some, true_implies, false_implies, implies_true], ⟨fun _ => ⟨g, hr⟩, fun _ => rfl⟩, fun _ => rfl, fun e => absurd rfl e⟩
  · have z : (c != 0) = true := by simpa using hc
    exact ⟨(0, c), by simp only [m28_1, m28, h1, z, decide_true, decide_false, Bool.false_eq_true, if_true, if_false, Bool.not_true, Bool.not_false, Bool.or_true, Bool.or_false, Bool.true_or, Bool.false_or, Bool.and_true, Bool.and_false, Bool.true_and, Bool.false_and, Option.bind_some, true_implies, false_implies, implies_true], by simp only [m29_1, m29, h2, z, decide_true, decide_false, Bool.false_eq_true, if_true, if_false, Bool.not_true, Bool.not_false, Bool.or_true, Bool.or_false, Bool.true_or, Bool.false_or, Bool.and_true, Bool.and_false, Bool.true_and, Bool.false_and, Option.bind_some, true_implies, false_implies, implies_true], h3, fun e => absurd e hc, fun _ => rfl⟩
end Go.Av

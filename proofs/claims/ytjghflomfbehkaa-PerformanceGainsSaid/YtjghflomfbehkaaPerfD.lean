/- The models of performance and of its specification, in plain terms: rates of climb. -/
import Derived.Test.YtjghflomfbehkaaPerfC
set_option linter.unusedSimpArgs false
namespace Go.Av
def gap (p : T25) (i j : Nat) : Prop := p.Alts.getD i default - p.Alts.getD (i - 1) default < tb p.Climb (i - 1) j - tb p.Climb i j
instance (p : T25) (i j : Nat) : Decidable (gap p i j) := by unfold gap; infer_instance
def gentR (p : T25) (i : Nat) : Bool := allR 0 (p.Climb.getD i default).length fun j => !decide (gap p i j)
def gentT (p : T25) : Bool := allR 1 p.Alts.length fun i => gentR p i
/-- The tables' shape and sizes. -/
structure Cl (p : T25) (m : Nat) : Prop where
  fit : Fits p.Climb
  fa : p.Alts.length ≤ maxLen
  sh : Sh m p.Climb
  len : p.Climb.length = p.Alts.length
  st : smT p.Climb
  sa : Go.Av.sm p.Alts
theorem s38 {p : T25} {m : Nat} (h : Cl p m) : m38 p = some (gentT p) := by
  have hm := maxLen_le h.fa
  have inner : ∀ i : Nat, 1 ≤ i → i < p.Alts.length → loopO (b38_11 p i) 0 = some (if gentR p i = true then .inl () else .inr false) := fun i hi1 hi =>
    loop_all (b := b38_11 p i) (n := (p.Climb.getD i default).length) (fun j => !decide (gap p i j)) (.inr false) (.inl ()) (fun j hj => by simp only [b38_11, m38_1, m38_2, m38_5, m38_6, m38_9, m38_11, m38_12, m38_13, m38_14, m38_15, m38_16, m38_17, m38_19, m38_20, m38_21, m38_22, m38_23, m38_24, m38, Int.toNat_natCast, not_lt_cast hj, decide_false, Bool.false_eq_true, if_false]; rfl) _ 0 rfl fun j _ hj => by
      have hr : (p.Climb.getD i default).length ≤ maxLen := h.fit.2 _ (getD_mem (by rw [h.len]; exact hi))
      have hrm := maxLen_le hr
      have h0 : (0 : Int) ≤ j := by omega
      have h1 : (j : Int) < (p.Climb.getD i default).length := by omega
      have hI : (0 : Int) ≤ i := by omega
      have hI2 : (i : Int) < p.Alts.length := by omega
      have hI3 : (i : Int) < p.Climb.length := by rw [h.len]; omega
      have w1 : IntKind.wrap .i64 ((j : Int) + 1) = j + 1 := w64 (by omega) (by omega)
      have a2 : IntKind.wrap .i64 ((i : Int) - 1) = ((i - 1 : Nat) : Int) := by rw [w64 (by omega) (by omega)]; omega
      have a3 : (0 : Int) ≤ ((i - 1 : Nat) : Int) := by omega
      have a4 : ((i - 1 : Nat) : Int) < p.Alts.length := by omega
      have a4' : ((i - 1 : Nat) : Int) < p.Climb.length := by rw [h.len]; omega
      have a5 : (j : Int) < (p.Climb.getD (i - 1) default).length := by rw [h.sh (i - 1) (by rw [h.len]; omega), ← h.sh i (by rw [h.len]; exact hi)]; omega
      have b1 := h.st (i - 1) j
      have b2 := h.st i j
      have b3 := h.sa i
      have b4 := h.sa (i - 1)
      unfold tb at b1 b2
      have w3 : IntKind.wrap .i64 (p.Alts.getD i default - p.Alts.getD (i - 1) default) = p.Alts.getD i default - p.Alts.getD (i - 1) default := w64 (by omega) (by omega)
      have w4 : IntKind.wrap .i64 ((p.Climb.getD (i - 1) default).getD j default - (p.Climb.getD i default).getD j default) = (p.Climb.getD (i - 1) default).getD j default - (p.Climb.getD i default).getD j default := w64 (by omega) (by omega)
      simp only [b38_11, m38_1, m38_2, m38_5, m38_6, m38_9, m38_11, m38_12, m38_13, m38_14, m38_15, m38_16, m38_17, m38_19, m38_20, m38_21, m38_22, m38_23, m38_24, m38, w1, a2, Int.toNat_natCast, h0, h1, hI, hI2, hI3, a3, a4, a4', a5, w3, w4, decide_true, if_true]
      unfold gap tb
      by_cases hc : p.Alts.getD i default - p.Alts.getD (i - 1) default < (p.Climb.getD (i - 1) default).getD j default - (p.Climb.getD i default).getD j default <;> (simp only [hc, decide_true, decide_false, Bool.false_eq_true, if_true, if_false, Bool.not_true, Bool.not_false, Bool.or_true, Bool.or_false, Bool.true_or, Bool.false_or, Bool.and_true, Bool.and_false, Bool.true_and, Bool.false_and, true_implies, false_implies, implies_true]; rfl)
  have e : loopO (b38_19 p) 1 = _ := loop_all (b := b38_19 p) (n := p.Alts.length) (fun i => gentR p i) (.inl false) (.inr ()) (fun i hi => by simp only [b38_19, m38_1, m38_2, m38_5, m38_6, m38_9, m38_11, m38_12, m38_13, m38_14, m38_15, m38_16, m38_17, m38_19, m38_20, m38_21, m38_22, m38_23, m38_24, m38, not_lt_cast hi, decide_false, Bool.false_eq_true, if_false, Option.bind_some]; rfl) _ 1 rfl fun i hi1 hi' => by
    have h0 : (0 : Int) ≤ i := by omega
    have h1 : (i : Int) < p.Alts.length := by omega
    have h2 : (i : Int) < p.Climb.length := by rw [h.len]; omega
    have w1 : IntKind.wrap .i64 ((i : Int) + 1) = i + 1 := w64 (by omega) (by omega)
    simp only [b38_19, m38_1, m38_2, m38_5, m38_6, m38_9, m38_11, m38_12, m38_13, m38_14, m38_15, m38_16, m38_17, m38_19, m38_20, m38_21, m38_22, m38_23, m38_24, m38, w1, Int.toNat_natCast, inner i hi1 hi', h0, h1, h2, decide_true, if_true, Option.bind_some]
    generalize gentR p i = b
    cases b <;> rfl
  simp only [m38_1, m38_2, m38_5, m38_6, m38_9, m38_11, m38_12, m38_13, m38_14, m38_15, m38_16, m38_17, m38_19, m38_20, m38_21, m38_22, m38_23, m38_24, m38, Option.bind_some, e]
  unfold gentT
  generalize allR _ _ _ = c
  cases c <;> rfl
def clP (p : T25) (i j : Nat) : Bool := !(decide (0 < j) && decide (tb p.Climb i (j - 1) < tb p.Climb i j)) && !(decide (0 < i) && (decide (tb p.Climb (i - 1) j < tb p.Climb i j) || decide (gap p i j)))
def clR (p : T25) (i : Nat) : Bool := allR 0 (p.Climb.getD i default).length fun j => clP p i j
def clT (p : T25) : Bool := allR 0 p.Climb.length fun i => clR p i
theorem s45 {p : T25} {m : Nat} (h : Cl p m) : m45 p = some (clT p) := by
  have hm := maxLen_le h.fa
  have hmc := maxLen_le h.fit.1
  have inner : ∀ i : Nat, i < p.Climb.length → loopO (b45_13 p i) 0 = some (if clR p i = true then .inl () else .inr false) := fun i hi =>
    loop_all (b := b45_13 p i) (n := (p.Climb.getD i default).length) (fun j => clP p i j) (.inr false) (.inl ()) (fun j hj => by simp only [b45_13, m45_1, m45_2, m45_5, m45_6, m45_7, m45_8, m45_11, m45_13, m45_14, m45_15, m45_16, m45_17, m45_18, m45_19, m45_20, m45_21, m45_23, m45_24, m45_25, m45_26, m45_27, m45_28, m45, Int.toNat_natCast, not_lt_cast hj, decide_false, Bool.false_eq_true, if_false]; rfl) _ 0 rfl fun j _ hj => by
      have hr : (p.Climb.getD i default).length ≤ maxLen := h.fit.2 _ (getD_mem hi)
      have hrm := maxLen_le hr
      have h0 : (0 : Int) ≤ j := by omega
      have h1 : (j : Int) < (p.Climb.getD i default).length := by omega
      have hI : (0 : Int) ≤ i := by omega
      have hI2 : (i : Int) < p.Alts.length := by rw [← h.len]; omega
      have hI3 : (i : Int) < p.Climb.length := by omega
      have w1 : IntKind.wrap .i64 ((j : Int) + 1) = j + 1 := w64 (by omega) (by omega)
      have b1 := h.st (i - 1) j
      have b2 := h.st i j
      have b3 := h.sa i
      have b4 := h.sa (i - 1)
      unfold tb at b1 b2
      have w3 : IntKind.wrap .i64 (p.Alts.getD i default - p.Alts.getD (i - 1) default) = p.Alts.getD i default - p.Alts.getD (i - 1) default := w64 (by omega) (by omega)
      have w4 : IntKind.wrap .i64 ((p.Climb.getD (i - 1) default).getD j default - (p.Climb.getD i default).getD j default) = (p.Climb.getD (i - 1) default).getD j default - (p.Climb.getD i default).getD j default := w64 (by omega) (by omega)
      have A : (0 < i → (0 : Int) < i ∧ IntKind.wrap .i64 ((i : Int) - 1) = ((i - 1 : Nat) : Int) ∧ (0 : Int) ≤ ((i - 1 : Nat) : Int) ∧ ((i - 1 : Nat) : Int) < p.Climb.length ∧ ((i - 1 : Nat) : Int) < p.Alts.length ∧ (j : Int) < (p.Climb.getD (i - 1) default).length) := fun hi0 =>
        ⟨by omega, by rw [w64 (by omega) (by omega)]; omega, by omega, by omega, by rw [← h.len]; omega, by rw [h.sh (i - 1) (by omega), ← h.sh i hi]; omega⟩
      have B : (0 < j → (0 : Int) < j ∧ IntKind.wrap .i64 ((j : Int) - 1) = ((j - 1 : Nat) : Int) ∧ (0 : Int) ≤ ((j - 1 : Nat) : Int) ∧ ((j - 1 : Nat) : Int) < (p.Climb.getD i default).length) := fun hj0 =>
        ⟨by omega, by rw [w64 (by omega) (by omega)]; omega, by omega, by omega⟩
      have A' : ¬ 0 < i → ¬ (0 : Int) < i := fun _ => by omega
      have B' : ¬ 0 < j → ¬ (0 : Int) < j := fun _ => by omega
      simp only [b45_13, m45_1, m45_2, m45_5, m45_6, m45_7, m45_8, m45_11, m45_13, m45_14, m45_15, m45_16, m45_17, m45_18, m45_19, m45_20, m45_21, m45_23, m45_24, m45_25, m45_26, m45_27, m45_28, m45, w1, Int.toNat_natCast, h0, h1, hI, hI2, hI3, decide_true, if_true, implies_true]
      unfold clP gap tb
      by_cases hi0 : 0 < i
      · obtain ⟨a1, a2, a3, a4, a4', a5⟩ := A hi0
        simp only [a1, a2, a3, a4, a4', a5, hi0, w3, w4, Int.toNat_natCast, implies_true, if_true, decide_true, Bool.true_and]
        by_cases hj0 : 0 < j
        · obtain ⟨b1, b2, b3, b4⟩ := B hj0
          simp only [b1, b2, b3, b4, hj0, Int.toNat_natCast, implies_true, if_true, decide_true, Bool.true_and]
          by_cases c0 : (p.Climb.getD i default).getD (j - 1) default < (p.Climb.getD i default).getD j default <;> by_cases c1 : (p.Climb.getD (i - 1) default).getD j default < (p.Climb.getD i default).getD j default <;> by_cases c2 : p.Alts.getD i default - p.Alts.getD (i - 1) default < (p.Climb.getD (i - 1) default).getD j default - (p.Climb.getD i default).getD j default <;> (simp only [c0, c1, c2, decide_true, decide_false, Bool.false_eq_true, if_true, if_false, Bool.not_true, Bool.not_false, Bool.or_true, Bool.or_false, Bool.true_or, Bool.false_or, Bool.and_true, Bool.and_false, Bool.true_and, Bool.false_and, true_implies, false_implies, implies_true]; rfl)
        · simp only [B' hj0, hj0, decide_false, Bool.and_false, Bool.false_and, Bool.false_eq_true, false_implies, if_true, if_false, Bool.not_false, Bool.true_and]
          by_cases c1 : (p.Climb.getD (i - 1) default).getD j default < (p.Climb.getD i default).getD j default <;> by_cases c2 : p.Alts.getD i default - p.Alts.getD (i - 1) default < (p.Climb.getD (i - 1) default).getD j default - (p.Climb.getD i default).getD j default <;> (simp only [c1, c2, decide_true, decide_false, Bool.false_eq_true, if_true, if_false, Bool.not_true, Bool.not_false, Bool.or_true, Bool.or_false, Bool.true_or, Bool.false_or, Bool.and_true, Bool.and_false, Bool.true_and, Bool.false_and, true_implies, false_implies, implies_true]; rfl)
      · simp only [A' hi0, hi0, decide_false, Bool.false_and, Bool.false_eq_true, false_implies, if_true, if_false, Bool.not_false, Bool.and_true]
        by_cases hj0 : 0 < j
        · obtain ⟨b1, b2, b3, b4⟩ := B hj0
          simp only [b1, b2, b3, b4, hj0, Int.toNat_natCast, implies_true, if_true, decide_true, Bool.true_and]
          by_cases c0 : (p.Climb.getD i default).getD (j - 1) default < (p.Climb.getD i default).getD j default <;> (simp only [c0, decide_true, decide_false, Bool.false_eq_true, if_true, if_false, Bool.not_true, Bool.not_false, Bool.or_true, Bool.or_false, Bool.true_or, Bool.false_or, Bool.and_true, Bool.and_false, Bool.true_and, Bool.false_and, true_implies, false_implies, implies_true]; rfl)
        · simp only [B' hj0, hj0, decide_false, Bool.and_false, Bool.false_and, Bool.false_eq_true, false_implies, if_true, if_false, Bool.not_false]
          rfl
  have e : loopO (b45_23 p) 0 = _ := loop_all (b := b45_23 p) (n := p.Climb.length) (fun i => clR p i) (.inl false) (.inr ()) (fun i hi => by simp only [b45_23, m45_1, m45_2, m45_5, m45_6, m45_7, m45_8, m45_11, m45_13, m45_14, m45_15, m45_16, m45_17, m45_18, m45_19, m45_20, m45_21, m45_23, m45_24, m45_25, m45_26, m45_27, m45_28, m45, not_lt_cast hi, decide_false, Bool.false_eq_true, if_false, Option.bind_some]; rfl) _ 0 rfl fun i _ hi' => by
    have h0 : (0 : Int) ≤ i := by omega
    have h1 : (i : Int) < p.Climb.length := by omega
    have w1 : IntKind.wrap .i64 ((i : Int) + 1) = i + 1 := w64 (by omega) (by omega)
    simp only [b45_23, m45_1, m45_2, m45_5, m45_6, m45_7, m45_8, m45_11, m45_13, m45_14, m45_15, m45_16, m45_17, m45_18, m45_19, m45_20, m45_21, m45_23, m45_24, m45_25, m45_26, m45_27, m45_28, m45, w1, Int.toNat_natCast, inner i hi', h0, h1, decide_true, if_true, Option.bind_some]
    generalize clR p i = b
    cases b <;> rfl
  simp only [m45_1, m45_2, m45_5, m45_6, m45_7, m45_8, m45_11, m45_13, m45_14, m45_15, m45_16, m45_17, m45_18, m45_19, m45_20, m45_21, m45_23, m45_24, m45_25, m45_26, m45_27, m45_28, m45, Option.bind_some, e]
  unfold clT
  generalize allR _ _ _ = c
  cases c <;> rfl
/-- The same rules, told otherwise. -/
theorem cl_eq {p : T25} {m : Nat} (h : Cl p m) : (leanT (-1) p.Climb && gentT p) = clT p := by
  rw [Bool.eq_iff_iff, Bool.and_eq_true]
  unfold leanT gentT clT
  simp only [allR_iff, Bool.and_eq_true, downT, risL, gentR, clR, clP, allR_iff, Bool.not_eq_true', Bool.and_eq_false_iff, Bool.or_eq_false_iff, decide_eq_false_iff_not]
  constructor
  · rintro ⟨h1, h2⟩ i _ hi j _ hj
    obtain ⟨h3, h4⟩ := h1 i (Nat.zero_le _) hi
    refine ⟨?_, ?_⟩
    · by_cases hj0 : 0 < j
      · right; have := h3 j hj0 hj; unfold tb; omega
      · exact .inl hj0
    · by_cases hi0 : 0 < i
      · right
        refine ⟨?_, h2 i hi0 (by rw [← h.len]; exact hi) j (Nat.zero_le _) hj⟩
        rcases h4 j (Nat.zero_le _) hj with h5 | h5
        · exact absurd hi0 h5
        · exact h5
      · exact .inl hi0
  · intro h1
    refine ⟨fun i _ hi => ⟨fun j hj1 hj => ?_, fun j _ hj => ?_⟩, fun i hi1 hi j _ hj => ?_⟩
    · rcases (h1 i (Nat.zero_le _) hi j (Nat.zero_le _) hj).1 with h5 | h5
      · omega
      · unfold tb at h5; omega
    · rcases (h1 i (Nat.zero_le _) hi j (Nat.zero_le _) hj).2 with h5 | h5
      · exact .inl h5
      · exact .inr h5.1
    · rcases (h1 i (Nat.zero_le _) (by rw [h.len]; exact hi) j (Nat.zero_le _) hj).2 with h5 | h5
      · omega
      · exact h5.2
theorem fl_eq (t : List (List Int)) : leanT 1 t = flT t := by
  rw [Bool.eq_iff_iff]
  unfold leanT flT
  simp only [allR_iff, Bool.and_eq_true, downT, risL, flR, allR_iff, Bool.not_eq_true', Bool.and_eq_false_iff, Bool.or_eq_false_iff, decide_eq_false_iff_not]
  constructor
  · intro h1 i _ hi j _ hj
    obtain ⟨h3, h4⟩ := h1 i (Nat.zero_le _) hi
    refine ⟨h4 j (Nat.zero_le _) hj, ?_⟩
    by_cases hj0 : 0 < j
    · right; have := h3 j hj0 hj; unfold tb; omega
    · exact .inl hj0
  · intro h1 i _ hi
    refine ⟨fun j hj1 hj => ?_, fun j _ hj => (h1 i (Nat.zero_le _) hi j (Nat.zero_le _) hj).1⟩
    rcases (h1 i (Nat.zero_le _) hi j (Nat.zero_le _) hj).2 with h5 | h5
    · omega
    · unfold tb at h5; omega
end Go.Av

/- The models of the specification of performance, in plain terms. -/
import Derived.Test.YtjghflomfbehkaaPerfB
set_option linter.unusedSimpArgs false
namespace Go.Av
theorem inE (lo hi x : Int) : (decide (lo ≤ x) && decide (x ≤ hi)) = !(decide (x < lo) || decide (hi < x)) := by
  rw [Bool.eq_iff_iff]; simp
theorem s43 {l : List Int} (lo hi : Int) (hl : l.length ≤ maxLen) : m43 l lo hi = some (inL lo hi l) := by
  have hm := maxLen_le hl
  have e : loopO (b43_7 l lo hi) 0 = _ := loop_all (b := b43_7 l lo hi) (n := l.length) (fun i => decide (lo ≤ l.getD i default) && decide (l.getD i default ≤ hi)) (.inr false) (.inl ()) (fun i hi => by simp only [b43_7, m43_1, m43_2, m43_5, m43_7, m43_8, m43_9, m43_10, m43_11, m43_12, m43, not_lt_cast hi, decide_false, Bool.false_eq_true, if_false]; rfl) _ 0 rfl fun i _ hi' => by
    have h0 : (0 : Int) ≤ i := by omega
    have h1 : (i : Int) < l.length := by omega
    simp only [b43_7, m43_1, m43_2, m43_5, m43_7, m43_8, m43_9, m43_10, m43_11, m43_12, m43, Int.toNat_natCast, h0, h1, decide_true, if_true, Option.bind_some, inE]
    rw [w64 (by omega) (by omega)]
    by_cases c1 : l.getD i default < lo <;> by_cases c2 : hi < l.getD i default <;> (simp only [c1, c2, decide_true, decide_false, Bool.false_eq_true, if_true, if_false, Bool.not_true, Bool.not_false, Bool.or_true, Bool.or_false, Bool.true_or, Bool.false_or]; rfl)
  simp only [m43_1, m43_2, m43_5, m43_7, m43_8, m43_9, m43_10, m43_11, m43_12, m43, Option.bind_some, e]
  unfold inL
  generalize allR _ _ _ = c
  cases c <;> rfl
theorem s44 {t : List (List Int)} (lo hi : Int) (ht : Fits t) : m44 t lo hi = some (inT lo hi t) := by
  have hm := maxLen_le ht.1
  have e : loopO (b44_7 t lo hi) 0 = _ := loop_all (b := b44_7 t lo hi) (n := t.length) (fun i => inL lo hi (t.getD i default)) (.inr false) (.inl ()) (fun i hi => by simp only [b44_7, m44_1, m44_2, m44_5, m44_7, m44_8, m44_9, m44_10, m44_11, m44_12, m44, not_lt_cast hi, decide_false, Bool.false_eq_true, if_false]; rfl) _ 0 rfl fun i _ hi' => by
    have h0 : (0 : Int) ≤ i := by omega
    have h1 : (i : Int) < t.length := by omega
    have h2 : (t.getD i default).length ≤ maxLen := ht.2 _ (getD_mem hi')
    simp only [b44_7, m44_1, m44_2, m44_5, m44_7, m44_8, m44_9, m44_10, m44_11, m44_12, m44, Int.toNat_natCast, s43 lo hi h2, h0, h1, decide_true, if_true, Option.bind_some]
    rw [w64 (by omega) (by omega)]
    generalize inL lo hi (t.getD i default) = c
    cases c <;> rfl
  simp only [m44_1, m44_2, m44_5, m44_7, m44_8, m44_9, m44_10, m44_11, m44_12, m44, Option.bind_some, e]
  unfold inT
  generalize allR _ _ _ = c
  cases c <;> rfl
theorem s41 {t : List (List Int)} (n m : Nat) (ht : Fits t) : m41 t n m = some (shT n m t) := by
  have hm := maxLen_le ht.1
  have e : loopO (b41_8 t n m) 0 = _ := loop_all (b := b41_8 t n m) (n := t.length) (fun i => (t.getD i default).length == m) (.inr false) (.inl ()) (fun i hi => by simp only [b41_8, m41_1, m41_2, m41_3, m41_6, m41_8, m41_9, m41_10, m41_11, m41_12, m41_13, m41_14, m41, not_lt_cast hi, decide_false, Bool.false_eq_true, if_false]; rfl) _ 0 rfl fun i _ hi' => by
    have h0 : (0 : Int) ≤ i := by omega
    have h1 : (i : Int) < t.length := by omega
    simp only [b41_8, m41_1, m41_2, m41_3, m41_6, m41_8, m41_9, m41_10, m41_11, m41_12, m41_13, m41_14, m41, Int.toNat_natCast, h0, h1, decide_true, if_true, Option.bind_some, bne_cast]
    rw [w64 (by omega) (by omega), bne]
    generalize ((t.getD i default).length == m) = c
    cases c <;> rfl
  simp only [m41_1, m41_2, m41_3, m41_6, m41_8, m41_9, m41_10, m41_11, m41_12, m41_13, m41_14, m41, Option.bind_some, e, bne_cast]
  rw [bne]
  unfold shT
  generalize allR _ _ _ = c
  generalize (t.length == n) = d
  cases c <;> cases d <;> rfl
theorem s42 {l : List Int} (hl : l.length ≤ maxLen) : m42 l = some (ascL l) := by
  have hm := maxLen_le hl
  have e : loopO (b42_7 l) 1 = _ := loop_all (b := b42_7 l) (n := l.length) (fun i => !decide (l.getD i default ≤ l.getD (i - 1) default)) (.inr false) (.inl ()) (fun i hi => by simp only [b42_7, m42_1, m42_2, m42_5, m42_7, m42_8, m42_9, m42_10, m42_11, m42_12, m42, not_lt_cast hi, decide_false, Bool.false_eq_true, if_false]; rfl) _ 1 rfl fun i h1' hi' => by
      have h0 : (0 : Int) ≤ i := by omega
      have h1 : (i : Int) < l.length := by omega
      have h2 : (0 : Int) ≤ ((i - 1 : Nat) : Int) := by omega
      have h3 : ((i - 1 : Nat) : Int) < l.length := by omega
      simp only [b42_7, m42_1, m42_2, m42_5, m42_7, m42_8, m42_9, m42_10, m42_11, m42_12, m42]
      rw [w64 (x := (i : Int) - 1) (by omega) (by omega), w64 (x := (i : Int) + 1) (by omega) (by omega), pred_i i h1']
      simp only [Int.toNat_natCast, h0, h1, h2, h3, decide_true, if_true]
      by_cases hc : l.getD i default ≤ l.getD (i - 1) default <;> (simp only [hc, decide_true, decide_false, Bool.false_eq_true, if_true, if_false, Bool.not_true, Bool.not_false]; rfl)
  have h : (ascL l) = allR 1 l.length fun i => !decide (l.getD i default ≤ l.getD (i - 1) default) := rfl
  simp only [m42_1, m42_2, m42_5, m42_7, m42_8, m42_9, m42_10, m42_11, m42_12, m42, Option.bind_some, e]
  rw [h]
  generalize allR _ _ _ = c
  cases c <;> rfl
theorem s47 {l : List Int} (hl : l.length ≤ maxLen) : m47 l = some (risL 1 l) := by
  have hm := maxLen_le hl
  have e : loopO (b47_7 l) 1 = _ := loop_all (b := b47_7 l) (n := l.length) (fun i => !decide (l.getD i default < l.getD (i - 1) default)) (.inr false) (.inl ()) (fun i hi => by simp only [b47_7, m47_1, m47_2, m47_5, m47_7, m47_8, m47_9, m47_10, m47_11, m47_12, m47, not_lt_cast hi, decide_false, Bool.false_eq_true, if_false]; rfl) _ 1 rfl fun i h1' hi' => by
      have h0 : (0 : Int) ≤ i := by omega
      have h1 : (i : Int) < l.length := by omega
      have h2 : (0 : Int) ≤ ((i - 1 : Nat) : Int) := by omega
      have h3 : ((i - 1 : Nat) : Int) < l.length := by omega
      simp only [b47_7, m47_1, m47_2, m47_5, m47_7, m47_8, m47_9, m47_10, m47_11, m47_12, m47]
      rw [w64 (x := (i : Int) - 1) (by omega) (by omega), w64 (x := (i : Int) + 1) (by omega) (by omega), pred_i i h1']
      simp only [Int.toNat_natCast, h0, h1, h2, h3, decide_true, if_true]
      by_cases hc : l.getD i default < l.getD (i - 1) default <;> (simp only [hc, decide_true, decide_false, Bool.false_eq_true, if_true, if_false, Bool.not_true, Bool.not_false]; rfl)
  have h : (risL 1 l) = allR 1 l.length fun i => !decide (l.getD i default < l.getD (i - 1) default) := by unfold risL; exact allR_congr fun i _ _ => by simp only [Int.one_mul]
  simp only [m47_1, m47_2, m47_5, m47_7, m47_8, m47_9, m47_10, m47_11, m47_12, m47, Option.bind_some, e]
  rw [h]
  generalize allR _ _ _ = c
  cases c <;> rfl
theorem s48 {l : List Int} (hl : l.length ≤ maxLen) : m48 l = some (risL (-1) l) := by
  have hm := maxLen_le hl
  have e : loopO (b48_7 l) 1 = _ := loop_all (b := b48_7 l) (n := l.length) (fun i => !decide (l.getD (i - 1) default < l.getD i default)) (.inr false) (.inl ()) (fun i hi => by simp only [b48_7, m48_1, m48_2, m48_5, m48_7, m48_8, m48_9, m48_10, m48_11, m48_12, m48, not_lt_cast hi, decide_false, Bool.false_eq_true, if_false]; rfl) _ 1 rfl fun i h1' hi' => by
      have h0 : (0 : Int) ≤ i := by omega
      have h1 : (i : Int) < l.length := by omega
      have h2 : (0 : Int) ≤ ((i - 1 : Nat) : Int) := by omega
      have h3 : ((i - 1 : Nat) : Int) < l.length := by omega
      simp only [b48_7, m48_1, m48_2, m48_5, m48_7, m48_8, m48_9, m48_10, m48_11, m48_12, m48]
      rw [w64 (x := (i : Int) - 1) (by omega) (by omega), w64 (x := (i : Int) + 1) (by omega) (by omega), pred_i i h1']
      simp only [Int.toNat_natCast, h0, h1, h2, h3, decide_true, if_true]
      by_cases hc : l.getD (i - 1) default < l.getD i default <;> (simp only [hc, decide_true, decide_false, Bool.false_eq_true, if_true, if_false, Bool.not_true, Bool.not_false]; rfl)
  have h : (risL (-1) l) = allR 1 l.length fun i => !decide (l.getD (i - 1) default < l.getD i default) := by unfold risL; exact allR_congr fun i _ _ => congrArg not (decide_eq_decide.2 (by omega))
  simp only [m48_1, m48_2, m48_5, m48_7, m48_8, m48_9, m48_10, m48_11, m48_12, m48, Option.bind_some, e]
  rw [h]
  generalize allR _ _ _ = c
  cases c <;> rfl
/-- No flow rises with the altitude or falls with the mass. -/
def flR (t : List (List Int)) (i : Nat) : Bool := allR 0 (t.getD i default).length fun j => !((decide (0 < i) && decide (tb t (i - 1) j < tb t i j)) || (decide (0 < j) && decide (tb t i j < tb t i (j - 1))))
def flT (t : List (List Int)) : Bool := allR 0 t.length fun i => flR t i
theorem s46 {t : List (List Int)} {m : Nat} (ht : Fits t) (hm' : Sh m t) : m46 t = some (flT t) := by
  have hm := maxLen_le ht.1
  have inner : ∀ i : Nat, i < t.length → loopO (b46_13 t i) 0 = some (if flR t i = true then .inl () else .inr false) := fun i hi =>
    loop_all (b := b46_13 t i) (n := (t.getD i default).length) (fun j => !((decide (0 < i) && decide (tb t (i - 1) j < tb t i j)) || (decide (0 < j) && decide (tb t i j < tb t i (j - 1))))) (.inr false) (.inl ()) (fun j hj => by simp only [b46_13, m46_1, m46_2, m46_5, m46_6, m46_7, m46_8, m46_11, m46_13, m46_14, m46_15, m46_16, m46_17, m46_18, m46_19, m46_20, m46_21, m46_23, m46_24, m46_25, m46_26, m46_27, m46_28, m46, Int.toNat_natCast, not_lt_cast hj, decide_false, Bool.false_eq_true, if_false]; rfl) _ 0 rfl fun j _ hj => by
      have hr : (t.getD i default).length ≤ maxLen := ht.2 _ (getD_mem hi)
      have hrm := maxLen_le hr
      have h0 : (0 : Int) ≤ j := by omega
      have h1 : (j : Int) < (t.getD i default).length := by omega
      have hI : (0 : Int) ≤ i := by omega
      have hI2 : (i : Int) < t.length := by omega
      have w1 : IntKind.wrap .i64 ((j : Int) + 1) = j + 1 := w64 (by omega) (by omega)
      have A : (0 < i → (0 : Int) < i ∧ IntKind.wrap .i64 ((i : Int) - 1) = ((i - 1 : Nat) : Int) ∧ (0 : Int) ≤ ((i - 1 : Nat) : Int) ∧ ((i - 1 : Nat) : Int) < t.length ∧ (j : Int) < (t.getD (i - 1) default).length) := fun hi0 =>
        ⟨by omega, by rw [w64 (by omega) (by omega)]; omega, by omega, by omega, by rw [hm' (i - 1) (by omega), ← hm' i hi]; omega⟩
      have B : (0 < j → (0 : Int) < j ∧ IntKind.wrap .i64 ((j : Int) - 1) = ((j - 1 : Nat) : Int) ∧ (0 : Int) ≤ ((j - 1 : Nat) : Int) ∧ ((j - 1 : Nat) : Int) < (t.getD i default).length) := fun hj0 =>
        ⟨by omega, by rw [w64 (by omega) (by omega)]; omega, by omega, by omega⟩
      have A' : ¬ 0 < i → ¬ (0 : Int) < i := fun _ => by omega
      have B' : ¬ 0 < j → ¬ (0 : Int) < j := fun _ => by omega
      simp only [b46_13, m46_1, m46_2, m46_5, m46_6, m46_7, m46_8, m46_11, m46_13, m46_14, m46_15, m46_16, m46_17, m46_18, m46_19, m46_20, m46_21, m46_23, m46_24, m46_25, m46_26, m46_27, m46_28, m46, w1, Int.toNat_natCast, h0, h1, hI, hI2, decide_true, if_true, implies_true]
      unfold tb
      by_cases hi0 : 0 < i
      · obtain ⟨a1, a2, a3, a4, a5⟩ := A hi0
        simp only [a1, a2, a3, a4, a5, hi0, Int.toNat_natCast, implies_true, if_true, decide_true, Bool.true_and]
        by_cases hj0 : 0 < j
        · obtain ⟨b1, b2, b3, b4⟩ := B hj0
          simp only [b1, b2, b3, b4, hj0, Int.toNat_natCast, implies_true, if_true, decide_true, Bool.true_and, Bool.and_true]
          by_cases c1 : (t.getD (i - 1) default).getD j default < (t.getD i default).getD j default <;> by_cases c2 : (t.getD i default).getD j default < (t.getD i default).getD (j - 1) default <;> (simp only [c1, c2, decide_true, decide_false, Bool.false_eq_true, if_true, if_false, Bool.not_true, Bool.not_false, Bool.or_true, Bool.or_false, Bool.true_or, Bool.false_or, Bool.and_true, Bool.and_false, true_implies, false_implies, implies_true]; rfl)
        · simp only [B' hj0, hj0, decide_false, Bool.and_false, Bool.false_and, Bool.false_eq_true, false_implies, if_true, Bool.or_false]
          by_cases c1 : (t.getD (i - 1) default).getD j default < (t.getD i default).getD j default <;> (simp only [c1, decide_true, decide_false, Bool.false_eq_true, if_true, if_false, Bool.not_true, Bool.not_false, Bool.or_true, Bool.or_false, Bool.true_or, Bool.false_or, Bool.and_true, Bool.and_false, true_implies, false_implies, implies_true]; rfl)
      · simp only [A' hi0, hi0, decide_false, Bool.false_and, Bool.false_eq_true, false_implies, if_true, Bool.false_or, Bool.not_false, Bool.true_and]
        by_cases hj0 : 0 < j
        · obtain ⟨b1, b2, b3, b4⟩ := B hj0
          simp only [b1, b2, b3, b4, hj0, Int.toNat_natCast, implies_true, if_true, decide_true, Bool.true_and, Bool.and_true]
          by_cases c2 : (t.getD i default).getD j default < (t.getD i default).getD (j - 1) default <;> (simp only [c2, decide_true, decide_false, Bool.false_eq_true, if_true, if_false, Bool.not_true, Bool.not_false, Bool.or_true, Bool.or_false, Bool.true_or, Bool.false_or, Bool.and_true, Bool.and_false, true_implies, false_implies, implies_true]; rfl)
        · simp only [B' hj0, hj0, decide_false, Bool.and_false, Bool.false_and, Bool.false_eq_true, false_implies, if_true, if_false, Bool.or_false, Bool.not_false]
          rfl
  have e : loopO (b46_23 t) 0 = _ := loop_all (b := b46_23 t) (n := t.length) (fun i => flR t i) (.inl false) (.inr ()) (fun i hi => by simp only [b46_23, m46_1, m46_2, m46_5, m46_6, m46_7, m46_8, m46_11, m46_13, m46_14, m46_15, m46_16, m46_17, m46_18, m46_19, m46_20, m46_21, m46_23, m46_24, m46_25, m46_26, m46_27, m46_28, m46, not_lt_cast hi, decide_false, Bool.false_eq_true, if_false, Option.bind_some]; rfl) _ 0 rfl fun i _ hi' => by
    have h0 : (0 : Int) ≤ i := by omega
    have h1 : (i : Int) < t.length := by omega
    have w1 : IntKind.wrap .i64 ((i : Int) + 1) = i + 1 := w64 (by omega) (by omega)
    simp only [b46_23, m46_1, m46_2, m46_5, m46_6, m46_7, m46_8, m46_11, m46_13, m46_14, m46_15, m46_16, m46_17, m46_18, m46_19, m46_20, m46_21, m46_23, m46_24, m46_25, m46_26, m46_27, m46_28, m46, w1, Int.toNat_natCast, inner i hi', h0, h1, decide_true, if_true, Option.bind_some]
    generalize flR t i = b
    cases b <;> rfl
  simp only [m46_1, m46_2, m46_5, m46_6, m46_7, m46_8, m46_11, m46_13, m46_14, m46_15, m46_16, m46_17, m46_18, m46_19, m46_20, m46_21, m46_23, m46_24, m46_25, m46_26, m46_27, m46_28, m46, Option.bind_some, e]
  unfold flT
  generalize allR _ _ _ = c
  cases c <;> rfl
end Go.Av

/- The models of performance and of its specification, in plain terms: the checks of tables against one another. -/
import Derived.Test.YtjghflomfbehkaaPerfA
set_option linter.unusedSimpArgs false
namespace Go.Av

/-- All rows have m numbers. -/
def Sh (m : Nat) (t : List (List Int)) : Prop := ∀ i, i < t.length → (t.getD i default).length = m
/-- Element of a table. -/
def tb (t : List (List Int)) (i j : Nat) : Int := (t.getD i default).getD j default
def downT (t : List (List Int)) (i : Nat) : Bool := allR 0 (t.getD i default).length fun j => !(decide (0 < i) && decide (tb t (i - 1) j < tb t i j))
def leanT (sg : Int) (t : List (List Int)) : Bool := allR 0 t.length fun i => risL sg (t.getD i default) && downT t i
def smT (t : List (List Int)) : Prop := ∀ i j, -1000000000000 ≤ tb t i j ∧ tb t i j ≤ 1000000000000
theorem s37 {t : List (List Int)} {sg : Int} {m : Nat} (ht : Fits t) (hs : sg = 1 ∨ sg = -1) (hm' : Sh m t) (hb : smT t) : m37 t sg = some (leanT sg t) := by
  have hm := maxLen_le ht.1
  have inner : ∀ i : Nat, i < t.length → loopO (b37_14 t sg i) 0 = some (if downT t i = true then .inl () else .inr false) := fun i hi =>
    loop_all (b := b37_14 t sg i) (n := (t.getD i default).length) (fun j => !(decide (0 < i) && decide (tb t (i - 1) j < tb t i j))) (.inr false) (.inl ()) (fun j hj => by simp only [b37_14, m37_1, m37_2, m37_5, m37_6, m37_7, m37_8, m37_9, m37_12, m37_14, m37_15, m37_16, m37_17, m37_18, m37_19, m37_20, m37_21, m37_22, m37_23, m37_25, m37_26, m37_27, m37_28, m37_29, m37_30, m37, Int.toNat_natCast, not_lt_cast hj, decide_false, Bool.false_eq_true, if_false]; rfl) _ 0 rfl fun j _ hj => by
      have hr : (t.getD i default).length ≤ maxLen := ht.2 _ (getD_mem hi)
      have hrm := maxLen_le hr
      have h0 : (0 : Int) ≤ j := by omega
      have h1 : (j : Int) < (t.getD i default).length := by omega
      have w1 : IntKind.wrap .i64 ((j : Int) + 1) = j + 1 := w64 (by omega) (by omega)
      by_cases hi0 : 0 < i
      · have h2 : (0 : Int) < i := by omega
        have w2 : IntKind.wrap .i64 ((i : Int) - 1) = ((i - 1 : Nat) : Int) := by rw [w64 (by omega) (by omega)]; omega
        have h3 : (0 : Int) ≤ ((i - 1 : Nat) : Int) := by omega
        have h4 : ((i - 1 : Nat) : Int) < t.length := by omega
        have h5 : (j : Int) < (t.getD (i - 1) default).length := by rw [hm' (i - 1) (by omega), ← hm' i hi]; omega
        simp only [b37_14, m37_1, m37_2, m37_5, m37_6, m37_7, m37_8, m37_9, m37_12, m37_14, m37_15, m37_16, m37_17, m37_18, m37_19, m37_20, m37_21, m37_22, m37_23, m37_25, m37_26, m37_27, m37_28, m37_29, m37_30, m37, w1, w2, Int.toNat_natCast, h0, h1, h2, h3, h4, h5, hi0, decide_true, if_true, true_implies, Bool.true_and]
        unfold tb
        by_cases hc : (t.getD (i - 1) default).getD j default < (t.getD i default).getD j default <;> (simp only [hc, decide_true, decide_false, Bool.false_eq_true, if_true, if_false, Bool.not_true, Bool.not_false]; rfl)
      · have h2 : ¬ (0 : Int) < i := by omega
        simp only [b37_14, m37_1, m37_2, m37_5, m37_6, m37_7, m37_8, m37_9, m37_12, m37_14, m37_15, m37_16, m37_17, m37_18, m37_19, m37_20, m37_21, m37_22, m37_23, m37_25, m37_26, m37_27, m37_28, m37_29, m37_30, m37, w1, Int.toNat_natCast, h0, h1, h2, hi0, decide_true, decide_false, if_true, Bool.false_eq_true, false_implies, Bool.false_and, if_false, Bool.not_false]
        rfl
  have e : loopO (b37_25 t sg) 0 = _ := loop_all (b := b37_25 t sg) (n := t.length) (fun i => risL sg (t.getD i default) && downT t i) (.inl false) (.inr ()) (fun i hi => by simp only [b37_25, m37_1, m37_2, m37_5, m37_6, m37_7, m37_8, m37_9, m37_12, m37_14, m37_15, m37_16, m37_17, m37_18, m37_19, m37_20, m37_21, m37_22, m37_23, m37_25, m37_26, m37_27, m37_28, m37_29, m37_30, m37, not_lt_cast hi, decide_false, Bool.false_eq_true, if_false, Option.bind_some]; rfl) _ 0 rfl fun i _ hi' => by
    have h0 : (0 : Int) ≤ i := by omega
    have h1 : (i : Int) < t.length := by omega
    have w1 : IntKind.wrap .i64 ((i : Int) + 1) = i + 1 := w64 (by omega) (by omega)
    have hr : (t.getD i default).length ≤ maxLen := ht.2 _ (getD_mem hi')
    simp only [b37_25, m37_1, m37_2, m37_5, m37_6, m37_7, m37_8, m37_9, m37_12, m37_14, m37_15, m37_16, m37_17, m37_18, m37_19, m37_20, m37_21, m37_22, m37_23, m37_25, m37_26, m37_27, m37_28, m37_29, m37_30, m37, w1, Int.toNat_natCast, s39 hr hs (hb i), inner i hi', h0, h1, decide_true, if_true, Option.bind_some]
    generalize risL sg (t.getD i default) = a
    generalize downT t i = b
    cases a <;> cases b <;> rfl
  simp only [m37_1, m37_2, m37_5, m37_6, m37_7, m37_8, m37_9, m37_12, m37_14, m37_15, m37_16, m37_17, m37_18, m37_19, m37_20, m37_21, m37_22, m37_23, m37_25, m37_26, m37_27, m37_28, m37_29, m37_30, m37, Option.bind_some, e]
  unfold leanT
  generalize allR _ _ _ = c
  cases c <;> rfl
end Go.Av

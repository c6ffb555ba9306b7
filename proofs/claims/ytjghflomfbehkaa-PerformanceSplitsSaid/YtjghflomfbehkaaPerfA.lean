/- The models of performance and of its specification, in plain terms: the checks of lists and tables. -/
import Derived.Test.YtjghflomfbehkaaFnZ
import Derived.Test.YtjghflomfbehkaaAvPlain
set_option linter.unusedSimpArgs false
namespace Go.Av

theorem s32 (n lo hi : Int) : m32 n lo hi = some (decide (lo ≤ n) && decide (n ≤ hi)) := rfl
def inL (lo hi : Int) (l : List Int) : Bool := allR 0 l.length fun i => decide (lo ≤ l.getD i default) && decide (l.getD i default ≤ hi)
theorem s35 {l : List Int} (lo hi : Int) (hl : l.length ≤ maxLen) : m35 l lo hi = some (inL lo hi l) := by
  have hm := maxLen_le hl
  have e : loopO (b35_7 l lo hi) 0 = _ := loop_all (n := l.length) (fun i => decide (lo ≤ l.getD i default) && decide (l.getD i default ≤ hi)) (.inr false) (.inl ()) (fun i hi => by simp only [b35_7, m35_1, m35_2, m35_5, m35_7, m35_8, m35_9, m35_10, m35_11, m35_12, m35, not_lt_cast hi, decide_false, Bool.false_eq_true, if_false]; rfl) _ 0 rfl fun i _ hi' => by
    have h0 : (0 : Int) ≤ i := by omega
    have h1 : (i : Int) < l.length := by omega
    simp only [b35_7, m35_1, m35_2, m35_5, m35_7, m35_8, m35_9, m35_10, m35_11, m35_12, m35, s32, Int.toNat_natCast, h0, h1, decide_true, if_true, Option.bind_some]
    rw [w64 (by omega) (by omega)]
    generalize (decide (lo ≤ l.getD i default) && decide (l.getD i default ≤ hi)) = c
    cases c <;> rfl
  simp only [m35_1, m35_2, m35_5, m35_7, m35_8, m35_9, m35_10, m35_11, m35_12, m35, Option.bind_some, e]
  unfold inL
  generalize allR _ _ _ = c
  cases c <;> rfl
def inT (lo hi : Int) (t : List (List Int)) : Bool := allR 0 t.length fun i => inL lo hi (t.getD i default)
def Fits (t : List (List Int)) : Prop := t.length ≤ maxLen ∧ ∀ l ∈ t, l.length ≤ maxLen
theorem s36 {t : List (List Int)} (lo hi : Int) (ht : Fits t) : m36 t lo hi = some (inT lo hi t) := by
  have hm := maxLen_le ht.1
  have e : loopO (b36_7 t lo hi) 0 = _ := loop_all (n := t.length) (fun i => inL lo hi (t.getD i default)) (.inr false) (.inl ()) (fun i hi => by simp only [b36_7, m36_1, m36_2, m36_5, m36_7, m36_8, m36_9, m36_10, m36_11, m36_12, m36, not_lt_cast hi, decide_false, Bool.false_eq_true, if_false]; rfl) _ 0 rfl fun i _ hi' => by
    have h0 : (0 : Int) ≤ i := by omega
    have h1 : (i : Int) < t.length := by omega
    have h2 : (t.getD i default).length ≤ maxLen := ht.2 _ (getD_mem hi')
    simp only [b36_7, m36_1, m36_2, m36_5, m36_7, m36_8, m36_9, m36_10, m36_11, m36_12, m36, Int.toNat_natCast, s35 lo hi h2, h0, h1, decide_true, if_true, Option.bind_some]
    rw [w64 (by omega) (by omega)]
    generalize inL lo hi (t.getD i default) = c
    cases c <;> rfl
  simp only [m36_1, m36_2, m36_5, m36_7, m36_8, m36_9, m36_10, m36_11, m36_12, m36, Option.bind_some, e]
  unfold inT
  generalize allR _ _ _ = c
  cases c <;> rfl
def shT (n m : Nat) (t : List (List Int)) : Bool := (allR 0 t.length fun i => (t.getD i default).length == m) && t.length == n
theorem s33 {p : T25} {t : List (List Int)} (ht : Fits t) : m33 p t = some (shT p.Alts.length p.Masses.length t) := by
  have hm := maxLen_le ht.1
  have e : loopO (b33_7 p t) 0 = _ := loop_all (n := t.length) (fun i => (t.getD i default).length == p.Masses.length) (.inr false) (.inl ()) (fun i hi => by simp only [b33_7, m33_1, m33_2, m33_5, m33_7, m33_8, m33_9, m33_10, m33_11, m33_12, m33, not_lt_cast hi, decide_false, Bool.false_eq_true, if_false]; rfl) _ 0 rfl fun i _ hi' => by
    have h0 : (0 : Int) ≤ i := by omega
    have h1 : (i : Int) < t.length := by omega
    simp only [b33_7, m33_1, m33_2, m33_5, m33_7, m33_8, m33_9, m33_10, m33_11, m33_12, m33, Int.toNat_natCast, h0, h1, decide_true, if_true, Option.bind_some, bne_cast]
    rw [w64 (by omega) (by omega), bne]
    generalize ((t.getD i default).length == p.Masses.length) = c
    cases c <;> rfl
  simp only [m33_1, m33_2, m33_5, m33_7, m33_8, m33_9, m33_10, m33_11, m33_12, m33, Option.bind_some, e, beq_cast]
  unfold shT
  generalize allR _ _ _ = c
  cases c <;> simp
/-- Strictly ascending. -/
def ascL (l : List Int) : Bool := allR 1 l.length fun i => !decide (l.getD i default ≤ l.getD (i - 1) default)
theorem pred_i (i : Nat) (h : 1 ≤ i) : (i : Int) - 1 = ((i - 1 : Nat) : Int) := by omega
theorem s34 {l : List Int} (hl : l.length ≤ maxLen) : m34 l = some (ascL l) := by
  have hm := maxLen_le hl
  have e : loopO (b34_7 l) 1 = _ := loop_all (n := l.length) (fun i => !decide (l.getD i default ≤ l.getD (i - 1) default)) (.inr false) (.inl ()) (fun i hi => by simp only [b34_7, m34_1, m34_2, m34_5, m34_7, m34_8, m34_9, m34_10, m34_11, m34_12, m34, not_lt_cast hi, decide_false, Bool.false_eq_true, if_false]; rfl) _ 1 rfl fun i h1' hi' => by
      have h0 : (0 : Int) ≤ i := by omega
      have h1 : (i : Int) < l.length := by omega
      have h2 : (0 : Int) ≤ ((i - 1 : Nat) : Int) := by omega
      have h3 : ((i - 1 : Nat) : Int) < l.length := by omega
      simp only [b34_7, m34_1, m34_2, m34_5, m34_7, m34_8, m34_9, m34_10, m34_11, m34_12, m34]
      rw [w64 (x := (i : Int) - 1) (by omega) (by omega), w64 (x := (i : Int) + 1) (by omega) (by omega), pred_i i h1']
      simp only [Int.toNat_natCast, h0, h1, h2, h3, decide_true, if_true]
      by_cases hc : l.getD i default ≤ l.getD (i - 1) default <;> (simp only [hc, decide_true, decide_false, Bool.false_eq_true, if_true, if_false, Bool.not_true, Bool.not_false]; rfl)
  simp only [m34_1, m34_2, m34_5, m34_7, m34_8, m34_9, m34_10, m34_11, m34_12, m34, Option.bind_some, e]
  unfold ascL
  generalize allR _ _ _ = c
  cases c <;> rfl
/-- No number goes down (sign 1) or up (sign -1). -/
def risL (sg : Int) (l : List Int) : Bool := allR 1 l.length fun i => !decide (sg * l.getD i default < sg * l.getD (i - 1) default)
def sm (l : List Int) : Prop := ∀ i, -1000000000000 ≤ l.getD i default ∧ l.getD i default ≤ 1000000000000
theorem s39 {l : List Int} {sg : Int} (hl : l.length ≤ maxLen) (hs : sg = 1 ∨ sg = -1) (hb : sm l) : m39 l sg = some (risL sg l) := by
  have hm := maxLen_le hl
  have e : loopO (b39_7 l sg) 1 = _ := loop_all (n := l.length) (fun i => !decide (sg * l.getD i default < sg * l.getD (i - 1) default)) (.inr false) (.inl ()) (fun i hi => by simp only [b39_7, m39_1, m39_2, m39_5, m39_7, m39_8, m39_9, m39_10, m39_11, m39_12, m39, not_lt_cast hi, decide_false, Bool.false_eq_true, if_false]; rfl) _ 1 rfl fun i h1' hi' => by
      have h0 : (0 : Int) ≤ i := by omega
      have h1 : (i : Int) < l.length := by omega
      have h2 : (0 : Int) ≤ ((i - 1 : Nat) : Int) := by omega
      have h3 : ((i - 1 : Nat) : Int) < l.length := by omega
      have b1 := hb i
      have b2 := hb (i - 1)
      simp only [b39_7, m39_1, m39_2, m39_5, m39_7, m39_8, m39_9, m39_10, m39_11, m39_12, m39]
      rw [w64 (x := (i : Int) - 1) (by omega) (by omega), w64 (x := (i : Int) + 1) (by omega) (by omega), pred_i i h1']
      have e1 : IntKind.wrap .i64 (sg * l.getD i default) = sg * l.getD i default := by rcases hs with rfl | rfl <;> exact w64 (by omega) (by omega)
      have e2 : IntKind.wrap .i64 (sg * l.getD (i - 1) default) = sg * l.getD (i - 1) default := by rcases hs with rfl | rfl <;> exact w64 (by omega) (by omega)
      simp only [Int.toNat_natCast, h0, h1, h2, h3, e1, e2, decide_true, if_true]
      by_cases hc : sg * l.getD i default < sg * l.getD (i - 1) default <;> (simp only [hc, decide_true, decide_false, Bool.false_eq_true, if_true, if_false, Bool.not_true, Bool.not_false]; rfl)
  simp only [m39_1, m39_2, m39_5, m39_7, m39_8, m39_9, m39_10, m39_11, m39_12, m39, Option.bind_some, e]
  unfold risL
  generalize allR _ _ _ = c
  cases c <;> rfl
end Go.Av

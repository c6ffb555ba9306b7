/- The models of performance and of its specification, in plain terms: names. -/
import Derived.Test.YtjghflomfbehkaaPerfD
set_option linter.unusedSimpArgs false
namespace Go.Av
def nmC (s : List UInt8) (i : Nat) : Bool := !((decide (byteAt s i < 65) || decide (90 < byteAt s i)) && (decide (byteAt s i < 48) || decide (57 < byteAt s i)))
def nmB (s : List UInt8) (n : Int) : Bool := !(s.length == 0) && !decide (n < (s.length : Int)) && !decide (byteAt s 0 < 65) && !decide (90 < byteAt s 0) && allR 0 s.length (nmC s)
theorem s31 {s : List UInt8} (n : Int) (hl : s.length ≤ maxLen) : m31 s n = some (nmB s n) := by
  have hm := maxLen_le hl
  have e : loopO (b31_8 s n) 0 = _ := loop_all (b := b31_8 s n) (n := s.length) (nmC s) (.inr false) (.inl ()) (fun i hi => by simp only [b31_8, m31_1, m31_2, m31_3, m31_6, m31_8, m31_9, m31_10, m31_11, m31_12, m31_13, m31_14, m31, not_lt_cast hi, decide_false, Bool.false_eq_true, if_false]; rfl) _ 0 rfl fun i _ hi' => by
    have h0 : (0 : Int) ≤ i := by omega
    have h1 : (i : Int) < s.length := by omega
    have w1 : IntKind.wrap .i64 ((i : Int) + 1) = i + 1 := w64 (by omega) (by omega)
    simp only [b31_8, m31_1, m31_2, m31_3, m31_6, m31_8, m31_9, m31_10, m31_11, m31_12, m31_13, m31_14, m31, w1, Int.toNat_natCast, h0, h1, decide_true, if_true, implies_true]
    unfold nmC
    by_cases c1 : byteAt s i < 65 <;> by_cases c2 : 90 < byteAt s i <;> by_cases c3 : byteAt s i < 48 <;> by_cases c4 : 57 < byteAt s i <;> (simp only [c1, c2, c3, c4, decide_true, decide_false, Bool.false_eq_true, if_true, if_false, Bool.not_true, Bool.not_false, Bool.or_true, Bool.or_false, Bool.true_or, Bool.false_or, Bool.and_true, Bool.and_false, Bool.true_and, Bool.false_and, true_implies, false_implies, implies_true, Option.bind_some] <;> rfl)
  by_cases hz : s.length = 0
  · have z1 : (s.length : Int) = 0 := by omega
    have z2 : (s.length == 0) = true := by simpa using hz
    have z3 : ((s.length : Int) == (0 : Int)) = true := by simpa using z1
    have z4 : (s.length : Int) < 1 := by omega
    simp only [m31_1, m31_2, m31_3, m31_6, m31_8, m31_9, m31_10, m31_11, m31_12, m31_13, m31_14, m31, nmB, z2, z3, z4, decide_true, decide_false, Bool.false_eq_true, if_true, if_false, Bool.not_true, Bool.not_false, Bool.or_true, Bool.or_false, Bool.true_or, Bool.false_or, Bool.and_true, Bool.and_false, Bool.true_and, Bool.false_and, true_implies, false_implies, implies_true, Option.bind_some]
  · have z2 : (s.length == 0) = false := by simpa using hz
    have z3 : ((s.length : Int) == (0 : Int)) = false := by simpa using hz
    have z4 : ¬ (s.length : Int) < 1 := by omega
    have z5 : (0 : Int) < s.length := by omega
    have t0 : (0 : Int).toNat = 0 := rfl
    have l0 : (0 : Int) ≤ 0 := by omega
    simp only [m31_1, m31_2, m31_3, m31_6, m31_8, m31_9, m31_10, m31_11, m31_12, m31_13, m31_14, m31, nmB, z2, z3, z4, z5, t0, l0, e, decide_true, decide_false, Bool.false_eq_true, if_true, if_false, Bool.not_true, Bool.not_false, Bool.or_true, Bool.or_false, Bool.true_or, Bool.false_or, Bool.and_true, Bool.and_false, Bool.true_and, Bool.false_and, true_implies, false_implies, implies_true, Option.bind_some]
    generalize allR _ _ _ = c
    by_cases c1 : n < (s.length : Int) <;> by_cases c2 : byteAt s 0 < 65 <;> by_cases c3 : 90 < byteAt s 0 <;> cases c <;> (simp only [c1, c2, c3, decide_true, decide_false, Bool.false_eq_true, if_true, if_false, Bool.not_true, Bool.not_false, Bool.or_true, Bool.or_false, Bool.true_or, Bool.false_or, Bool.and_true, Bool.and_false, Bool.true_and, Bool.false_and, true_implies, false_implies, implies_true, Option.bind_some] <;> rfl)
theorem s40 {s : List UInt8} (n : Int) (hl : s.length ≤ maxLen) : m40 s n = some (nmB s n) := by
  have hm := maxLen_le hl
  have e : loopO (b40_8 s n) 0 = _ := loop_all (b := b40_8 s n) (n := s.length) (nmC s) (.inr false) (.inl ()) (fun i hi => by simp only [b40_8, m40_1, m40_2, m40_3, m40_6, m40_8, m40_9, m40_10, m40_11, m40_12, m40_13, m40_14, m40, not_lt_cast hi, decide_false, Bool.false_eq_true, if_false]; rfl) _ 0 rfl fun i _ hi' => by
    have h0 : (0 : Int) ≤ i := by omega
    have h1 : (i : Int) < s.length := by omega
    have w1 : IntKind.wrap .i64 ((i : Int) + 1) = i + 1 := w64 (by omega) (by omega)
    simp only [b40_8, m40_1, m40_2, m40_3, m40_6, m40_8, m40_9, m40_10, m40_11, m40_12, m40_13, m40_14, m40, w1, Int.toNat_natCast, h0, h1, decide_true, if_true, implies_true]
    unfold nmC
    by_cases c1 : byteAt s i < 65 <;> by_cases c2 : 90 < byteAt s i <;> by_cases c3 : byteAt s i < 48 <;> by_cases c4 : 57 < byteAt s i <;> (simp only [c1, c2, c3, c4, decide_true, decide_false, Bool.false_eq_true, if_true, if_false, Bool.not_true, Bool.not_false, Bool.or_true, Bool.or_false, Bool.true_or, Bool.false_or, Bool.and_true, Bool.and_false, Bool.true_and, Bool.false_and, true_implies, false_implies, implies_true, Option.bind_some] <;> rfl)
  by_cases hz : s.length = 0
  · have z1 : (s.length : Int) = 0 := by omega
    have z2 : (s.length == 0) = true := by simpa using hz
    have z3 : ((s.length : Int) == (0 : Int)) = true := by simpa using z1
    have z4 : (s.length : Int) < 1 := by omega
    simp only [m40_1, m40_2, m40_3, m40_6, m40_8, m40_9, m40_10, m40_11, m40_12, m40_13, m40_14, m40, nmB, z2, z3, z4, decide_true, decide_false, Bool.false_eq_true, if_true, if_false, Bool.not_true, Bool.not_false, Bool.or_true, Bool.or_false, Bool.true_or, Bool.false_or, Bool.and_true, Bool.and_false, Bool.true_and, Bool.false_and, true_implies, false_implies, implies_true, Option.bind_some]
  · have z2 : (s.length == 0) = false := by simpa using hz
    have z3 : ((s.length : Int) == (0 : Int)) = false := by simpa using hz
    have z4 : ¬ (s.length : Int) < 1 := by omega
    have z5 : (0 : Int) < s.length := by omega
    have t0 : (0 : Int).toNat = 0 := rfl
    have l0 : (0 : Int) ≤ 0 := by omega
    simp only [m40_1, m40_2, m40_3, m40_6, m40_8, m40_9, m40_10, m40_11, m40_12, m40_13, m40_14, m40, nmB, z2, z3, z4, z5, t0, l0, e, decide_true, decide_false, Bool.false_eq_true, if_true, if_false, Bool.not_true, Bool.not_false, Bool.or_true, Bool.or_false, Bool.true_or, Bool.false_or, Bool.and_true, Bool.and_false, Bool.true_and, Bool.false_and, true_implies, false_implies, implies_true, Option.bind_some]
    generalize allR _ _ _ = c
    by_cases c1 : n < (s.length : Int) <;> by_cases c2 : byteAt s 0 < 65 <;> by_cases c3 : 90 < byteAt s 0 <;> cases c <;> (simp only [c1, c2, c3, decide_true, decide_false, Bool.false_eq_true, if_true, if_false, Bool.not_true, Bool.not_false, Bool.or_true, Bool.or_false, Bool.true_or, Bool.false_or, Bool.and_true, Bool.and_false, Bool.true_and, Bool.false_and, true_implies, false_implies, implies_true, Option.bind_some] <;> rfl)
end Go.Av

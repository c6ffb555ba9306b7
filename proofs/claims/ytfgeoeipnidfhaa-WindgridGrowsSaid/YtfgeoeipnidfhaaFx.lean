/- Plain mathematics of the rounding quotients (no program). -/
namespace Fx

theorem ediv_of {x d q : Int} (hd : 0 < d) (h1 : d * q ≤ x) (h2 : x < d * q + d) : x / d = q := by
  apply Int.le_antisymm
  · have := (Int.ediv_lt_iff_lt_mul hd (a := x) (b := q + 1)).2 (by rw [Int.add_mul, Int.mul_comm, Int.one_mul]; omega)
    omega
  · exact (Int.le_ediv_iff_mul_le hd).2 (by rw [Int.mul_comm]; exact h1)

/-- Whether the size of the quotient is rounded up: m = 0 down, 1 up, else to the nearest, halves up. -/
def away (m : Nat) (neg : Bool) (D r : Nat) : Bool :=
  if m = 0 then neg && decide (0 < r) else if m = 1 then !neg && decide (0 < r) else decide (D - r < r) || (!neg && decide (r = D - r))
/-- The rounded quotient by sizes. -/
def quoS (m : Nat) (neg : Bool) (P D : Nat) : Int :=
  let n : Int := ((P / D + (if away m neg D (P % D) then 1 else 0) : Nat) : Int)
  if neg then -n else n
/-- The rounded quotient of p by d > 0. -/
def quo (m : Nat) (p d : Int) : Int :=
  if m = 0 then p / d else if m = 1 then -((-p) / d) else (2 * p + d) / (2 * d)
def negOf (a b c : Int) : Bool := (decide (a < 0) != decide (b < 0)) != decide (c < 0)
/-- a * b / c, rounded. -/
def mulDiv (m : Nat) (a b c : Int) : Int := if c < 0 then quo m (-(a * b)) (-c) else quo m (a * b) c

theorem quoS_eq (m : Nat) (neg : Bool) (P D : Nat) (hD : 0 < D) : quoS m neg P D = quo m (if neg then -(P : Int) else P) D := by
  have h := Nat.div_add_mod P D
  have hr := Nat.mod_lt P hD
  generalize hq : P / D = q at h
  generalize hrr : P % D = r at h hr
  have hd' : (0 : Int) < (D : Int) := by omega
  have hI : (D : Int) * q + r = P := by exact_mod_cast h
  unfold quoS quo away
  simp only [hq, hrr]
  by_cases h0 : m = 0
  · simp only [h0, if_true]
    cases neg
    · simp only [Bool.false_and, Bool.false_eq_true, if_false, Nat.add_zero]
      exact (ediv_of hd' (by omega) (by omega)).symm
    · simp only [Bool.true_and, decide_eq_true_eq, if_true]
      refine (ediv_of hd' ?_ ?_).symm
      · split
        · rw [Int.mul_neg, Int.natCast_add, Int.mul_add]; simp; omega
        · rw [Int.mul_neg]; simp; omega
      · split
        · rw [Int.mul_neg, Int.natCast_add, Int.mul_add]; simp; omega
        · rw [Int.mul_neg]; simp; omega
  · by_cases h1 : m = 1
    · simp only [h1, if_true, show ¬ (1 : Nat) = 0 by omega, if_false]
      cases neg
      · simp only [Bool.not_false, Bool.true_and, decide_eq_true_eq, Bool.false_eq_true, if_false]
        rw [← Int.neg_neg (((q + if 0 < r then 1 else 0 : Nat)) : Int)]
        congr 1
        refine (ediv_of hd' ?_ ?_).symm
        · split
          · rw [Int.mul_neg, Int.natCast_add, Int.mul_add]; simp; omega
          · rw [Int.mul_neg]; simp; omega
        · split
          · rw [Int.mul_neg, Int.natCast_add, Int.mul_add]; simp; omega
          · rw [Int.mul_neg]; simp; omega
      · simp only [Bool.not_true, Bool.false_and, Bool.false_eq_true, if_false, if_true, Nat.add_zero, Int.neg_neg]
        congr 1
        exact (ediv_of hd' (by omega) (by omega)).symm
    · simp only [h0, h1, if_false]
      have hd2 : (0 : Int) < 2 * D := by omega
      have hm2 : ∀ x : Int, (2 * D : Int) * x = 2 * (D * x) := fun x => by rw [Int.mul_assoc]
      cases neg
      · simp only [Bool.not_false, Bool.true_and, Bool.or_eq_true, decide_eq_true_eq, Bool.false_eq_true, if_false]
        refine (ediv_of hd2 ?_ ?_).symm
        · split
          · rw [hm2, Int.natCast_add, Int.mul_add]; simp; omega
          · rw [hm2]; simp; omega
        · split
          · rw [hm2, Int.natCast_add, Int.mul_add]; simp; omega
          · rw [hm2]; simp; omega
      · simp only [Bool.not_true, Bool.false_and, Bool.or_false, decide_eq_true_eq, if_true]
        refine (ediv_of hd2 ?_ ?_).symm
        · split
          · rw [hm2, Int.mul_neg, Int.natCast_add, Int.mul_add]; simp; omega
          · rw [hm2, Int.mul_neg]; simp; omega
        · split
          · rw [hm2]; simp only [Int.mul_neg, Int.natCast_add, Int.mul_add]; simp; omega
          · rw [hm2]; simp only [Int.mul_neg]; simp; omega

theorem mulDiv_eq (m : Nat) (a b c : Int) (hc : c ≠ 0) : quoS m (negOf a b c) (a.natAbs * b.natAbs) c.natAbs = mulDiv m a b c := by
  rw [quoS_eq _ _ _ _ (by omega), Int.natCast_mul]
  unfold mulDiv negOf
  by_cases ha : a < 0 <;> by_cases hb : b < 0 <;> by_cases hc' : c < 0
  all_goals
    first | (have ea : (a.natAbs : Int) = -a := by omega) | (have ea : (a.natAbs : Int) = a := by omega)
    first | (have eb : (b.natAbs : Int) = -b := by omega) | (have eb : (b.natAbs : Int) = b := by omega)
    first | (have ec : (c.natAbs : Int) = -c := by omega) | (have ec : (c.natAbs : Int) = c := by omega)
    rw [ea, eb, ec]
    simp [ha, hb, hc', Int.neg_mul, Int.mul_neg]

/-- Rounded down by a positive number. -/
theorem mulDiv_floor (a b c : Int) (hc : 0 < c) : mulDiv 0 a b c = a * b / c := by
  unfold mulDiv quo; rw [if_neg (by omega), if_pos rfl]
theorem quo_le (m : Nat) (p d B : Int) (hd : 0 < d) (h1 : -B ≤ p) (h2 : p ≤ B) : -B ≤ quo m p d ∧ quo m p d ≤ B := by
  have hB : 0 ≤ B := by omega
  have key : ∀ x q : Int, x / d = q → -B ≤ x → x ≤ B → -B ≤ q ∧ q ≤ B := by
    intro x q hq hx1 hx2
    subst hq
    refine ⟨(Int.le_ediv_iff_mul_le hd).2 ?_, Int.le_of_lt_add_one ((Int.ediv_lt_iff_lt_mul hd).2 ?_)⟩
    · have : -B * d ≤ -B * 1 := Int.mul_le_mul_of_nonpos_left (by omega) (by omega)
      omega
    · have : (B + 1) * 1 ≤ (B + 1) * d := Int.mul_le_mul_of_nonneg_left (by omega) (by omega)
      omega
  unfold quo
  split
  · exact key p _ rfl h1 h2
  · split
    · have := key (-p) _ rfl (by omega) (by omega)
      omega
    · refine ⟨(Int.le_ediv_iff_mul_le (by omega)).2 ?_, Int.le_of_lt_add_one ((Int.ediv_lt_iff_lt_mul (by omega)).2 ?_)⟩
      · have : -B * (2 * d) ≤ -B * 2 := Int.mul_le_mul_of_nonpos_left (by omega) (by omega)
        omega
      · have h3 : (B + 1) * (2 * d) = 2 * (B * d) + 2 * d := by
          rw [Int.add_mul, Int.one_mul, Int.mul_left_comm]
        have : B * 1 ≤ B * d := Int.mul_le_mul_of_nonneg_left (by omega) (by omega)
        omega
end Fx

/- Floors: products and quotients of words where the second factor is one. -/
import Derived.Test.YtjghflomfbehkaaPerfF
set_option linter.unusedSimpArgs false
namespace Go.Av
theorem wu {x : Int} (h1 : 0 ≤ x) (h2 : x ≤ 18446744073709551615) : IntKind.wrap .u64 x = x := IntWalk.u64_in x ⟨h1, h2⟩
theorem and_mask (n : Nat) (h : n < 18446744073709551616) : (((BitVec.ofInt (IntKind.bits .u64) (n : Int)) &&& (BitVec.ofInt (IntKind.bits .u64) (4294967295 : Int))).toNat : Int) = ((n % 4294967296 : Nat) : Int) := by
  rw [BitVec.toNat_and]
  have e1 : (BitVec.ofInt (IntKind.bits .u64) (n : Int)).toNat = n := by
    show (BitVec.ofInt 64 (n : Int)).toNat = n
    rw [BitVec.toNat_ofInt]
    omega
  have e2 : (BitVec.ofInt (IntKind.bits .u64) (4294967295 : Int)).toNat = 2 ^ 32 - 1 := by decide
  rw [e1, e2, Nat.and_two_pow_sub_one_eq_mod]
theorem s60 (n : Nat) (h : n < 18446744073709551616) : m60 n 1 = some (0, (n : Int)) := by
  have p32 : (2 ^ (min (32 : Int).toNat (IntKind.bits .u64)) : Int) = 4294967296 := by decide
  have l : (0 : Int) ≤ 32 := by decide
  have o1 : (((BitVec.ofInt (IntKind.bits .u64) (1 : Int)) &&& (BitVec.ofInt (IntKind.bits .u64) (4294967295 : Int))).toNat : Int) = 1 := by decide
  have d1 : Int.fdiv (1 : Int) 4294967296 = 0 := by decide
  have q1 : Int.fdiv (n : Int) 4294967296 = ((n / 4294967296 : Nat) : Int) := by
    rw [Int.fdiv_eq_ediv_of_nonneg _ (by decide)]; rfl
  have q2 : Int.fdiv ((n % 4294967296 : Nat) : Int) 4294967296 = 0 := by
    rw [Int.fdiv_eq_ediv_of_nonneg _ (by decide)]; omega
  have q3 : Int.fdiv ((n / 4294967296 : Nat) : Int) 4294967296 = 0 := by
    rw [Int.fdiv_eq_ediv_of_nonneg _ (by decide)]; omega
  have wa : IntKind.wrap .u64 ((n / 4294967296 : Nat) : Int) = ((n / 4294967296 : Nat) : Int) := wu (by omega) (by omega)
  have wb : IntKind.wrap .u64 ((n % 4294967296 : Nat) : Int) = ((n % 4294967296 : Nat) : Int) := wu (by omega) (by omega)
  have wn : IntKind.wrap .u64 (n : Int) = n := wu (by omega) (by omega)
  have w0 : IntKind.wrap .u64 0 = 0 := by decide
  have w1 : IntKind.wrap .u64 1 = 1 := by decide
  have am := and_mask n h
  have am2 := and_mask (n / 4294967296) (by omega)
  have hm : (n / 4294967296) % 4294967296 = n / 4294967296 := Nat.mod_eq_of_lt (by omega)
  rw [hm] at am2
  simp only [m60, m60_1, p32, l, if_true, o1, d1, q1, am, w0, w1, wa, wb, wn, Int.mul_one, Int.mul_zero, Int.zero_mul, Int.add_zero, Int.zero_add, q2, q3, am2]
theorem s61 (n c : Nat) (hn : n < 18446744073709551616) (hc : 0 < c) : m61 0 n c = some (((n / c : Nat) : Int), ((n % c : Nat) : Int)) := by
  have c0 : ((c : Int) == 0) = false := by simp; omega
  have c1 : ¬ ((c : Int) ≤ 0) := by omega
  have c2 : (c : Int) ≠ 0 := by omega
  have t1 : Int.tdiv (n : Int) (c : Int) = ((n / c : Nat) : Int) := rfl
  have t2 : Int.tmod (n : Int) (c : Int) = ((n % c : Nat) : Int) := rfl
  have hq : n / c ≤ n := Nat.div_le_self n c
  have w : IntKind.wrap .u64 ((n / c : Nat) : Int) = ((n / c : Nat) : Int) := by
    generalize n / c = q at hq
    exact wu (by omega) (by omega)
  have z : ((0 : Int) == 0) = true := rfl
  simp only [m61_1, m61_2, m61_3, m61_4, m61_5, m61_7, m61_8, m61_9, m61_10, m61_11, m61_12, m61_13, m61_14, m61_15, m61_18, m61_20, m61_21, m61_23, m61_24, m61_25, m61_28, m61_30, m61_31, m61_33, m61_34, m61_35, m61_36, m61_37, m61_38, m61_39, m61_40, m61_41, m61_42, m61_43, m61_44, m61_45, m61_46, m61_47, m61_48, m61_49, m61_50, m61_51, m61_52, m61, c0, c1, c2, t1, t2, w, z, decide_false, Bool.false_eq_true, if_false, if_true, ne_eq, not_false_eq_true, Option.bind_some]
theorem s59 (a : Int) (h1 : -9223372036854775808 ≤ a) (h2 : a ≤ 9223372036854775807) : m59 a = some (a.natAbs : Int) := by
  unfold m59 m59_1
  by_cases h : a < 0
  · have w1 : IntKind.wrap .u64 a = a + 18446744073709551616 := by rw [IntKind.wrap_u64]; omega
    have w2 : IntKind.wrap .u64 (0 - (a + 18446744073709551616)) = (a.natAbs : Int) := by rw [IntKind.wrap_u64]; omega
    simp only [h, decide_true, if_true, w1, w2]
  · have w1 : IntKind.wrap .u64 a = (a.natAbs : Int) := by rw [IntKind.wrap_u64]; omega
    simp only [h, decide_false, Bool.false_eq_true, if_false, w1]
theorem s62n (n : Nat) (h : n ≤ 9223372036854775808) : m62 n true = some (-(n : Int), 0) := by
  have h1 : (n : Int) ≤ 9223372036854775808 := by omega
  have w : IntKind.wrap .i64 (IntKind.wrap .u64 (0 - (n : Int))) = -(n : Int) := by rw [IntKind.wrap_i64, IntKind.wrap_u64]; omega
  simp only [m62, m62_1, h1, w, decide_true, Bool.and_true, if_true]
theorem s62p (n : Nat) (h : n < 9223372036854775808) : m62 n false = some ((n : Int), 0) := by
  have h1 : (n : Int) < 9223372036854775808 := by omega
  have w : IntKind.wrap .i64 (n : Int) = (n : Int) := by rw [IntKind.wrap_i64]; omega
  simp only [m62, m62_1, h1, w, decide_true, Bool.and_true, Bool.false_and, Bool.not_false, Bool.false_eq_true, if_true, if_false]
/-- The floor of a quotient whose divisor is positive. -/
theorem s55 (a c : Int) (h1 : -9223372036854775807 ≤ a) (h2 : a ≤ 9223372036854775807) (h3 : 0 < c) (h4 : c ≤ 9223372036854775807) : m55 a c = some (a / c, 0) := by
  have c0 : (c == 0) = false := by rw [beq_eq_false_iff_ne]; omega
  have sa := s59 a (by omega) (by omega)
  have s1 : m59 1 = some 1 := s59 1 (by omega) (by omega)
  have sc := s59 c (by omega) (by omega)
  have z0 : ((0 : Int) == 0) = true := rfl
  have d1 : decide ((1 : Int) < 0) = false := rfl
  have d2 : ¬ c < 0 := by omega
  have f1 : ((true != false) != false) = true := rfl
  have f2 : ((false != false) != false) = false := rfl
  obtain ⟨d, rfl⟩ : ∃ d : Nat, c = (d : Int) := ⟨c.toNat, by omega⟩
  have hd : 0 < d := by omega
  rw [Int.natAbs_natCast] at sc
  have hc : ¬ ((d : Int) ≤ 0) := by omega
  have hle : d ≤ 9223372036854775807 := by omega
  have hn : a.natAbs ≤ 9223372036854775807 := by omega
  have p := s60 a.natAbs (by omega)
  have q := s61 a.natAbs d (by omega) hd
  have hr := Nat.div_add_mod a.natAbs d
  have hlt := Nat.mod_lt a.natAbs hd
  have hdiv : a.natAbs / d ≤ a.natAbs := Nat.div_le_self _ _
  generalize a.natAbs / d = Q at q hr hdiv
  generalize a.natAbs % d = R at q hr hlt
  have hr' : (d : Int) * (Q : Int) + (R : Int) = (a.natAbs : Int) := by exact_mod_cast hr
  by_cases ha : a < 0
  · have hna : (a.natAbs : Int) = -a := by omega
    by_cases hz : 0 < R
    · have hz' : (0 : Int) < (R : Int) := by omega
      have nq : ((Q : Int) == 18446744073709551615) = false := by rw [beq_eq_false_iff_ne]; omega
      have w : IntKind.wrap .u64 ((Q : Int) + 1) = ((Q + 1 : Nat) : Int) := by rw [wu (by omega) (by omega)]; rfl
      have s := s62n (Q + 1) (by omega)
      have e : a / (d : Int) = -((Q + 1 : Nat) : Int) := by
        have h5 : a = -((Q + 1 : Nat) : Int) * (d : Int) + ((d : Int) - R) := by
          rw [Int.natCast_add, Int.neg_mul, Int.add_mul]
          have : (d : Int) * Q = Q * d := Int.mul_comm _ _
          omega
        rw [h5, Int.add_comm, Int.add_mul_ediv_right _ _ (by omega), Int.ediv_eq_zero_of_lt (by omega) (by omega)]
        omega
      simp only [m55, m55_1, m57, m57_1, c0, sa, s1, sc, p, q, hc, z0, d1, ha, d2, f1, hz', nq, w, s, e, decide_true, decide_false, Bool.false_eq_true, if_false, if_true, Option.bind_some, Bool.true_and]
    · obtain rfl : R = 0 := by omega
      have hz' : ¬ (0 : Int) < ((0 : Nat) : Int) := by omega
      have s := s62n Q (by omega)
      have e : a / (d : Int) = -(Q : Int) := by
        have h5 : a = -(Q : Int) * (d : Int) := by
          rw [Int.neg_mul]
          have : (d : Int) * Q = Q * d := Int.mul_comm _ _
          omega
        rw [h5, Int.mul_ediv_cancel _ (by omega)]
      simp only [m55, m55_1, m57, m57_1, c0, sa, s1, sc, p, q, hc, z0, d1, ha, d2, f1, hz', s, e, decide_true, decide_false, Bool.false_eq_true, if_false, if_true, Option.bind_some, Bool.true_and, Bool.and_false]
  · have hna : (a.natAbs : Int) = a := by omega
    have s := s62p Q (by omega)
    have e : a / (d : Int) = (Q : Int) := by
      have h5 : a = (R : Int) + (Q : Int) * (d : Int) := by
        have : (d : Int) * Q = Q * d := Int.mul_comm _ _
        omega
      rw [h5, Int.add_mul_ediv_right _ _ (by omega), Int.ediv_eq_zero_of_lt (by omega) (by omega)]
      omega
    have g : decide (a < 0) = false := decide_eq_false ha
    have g2 : decide ((d : Int) < 0) = false := decide_eq_false d2
    have g3 : decide ((d : Int) ≤ 0) = false := decide_eq_false hc
    have fa : ∀ b : Bool, (false && b) = false := by intro b; cases b <;> decide
    have key : m57 a 1 (d : Int) 0 = some ((Q : Int), 0) := by
      unfold m57 m57_1
      generalize (18446744073709551615 : Int) = B
      generalize m59 = M59 at sa s1 sc ⊢
      generalize m60 = M60 at p ⊢
      generalize m61 = M61 at q ⊢
      generalize m62 = M62 at s ⊢
      simp only [c0, Bool.false_eq_true, if_false, if_true, sc, Option.bind_some, sa, s1, p, g3, q]
      simp only [z0, if_true]
      simp only [g, d1, g2, f2, fa, Bool.false_eq_true, if_false, s, Option.bind_some]
    rw [e, m55, m55_1, key]
    rfl
end Go.Av

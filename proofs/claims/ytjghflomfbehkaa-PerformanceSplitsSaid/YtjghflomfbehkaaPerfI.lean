/- The specification's Floor. -/
import Derived.Test.YtjghflomfbehkaaPerfH
set_option linter.unusedSimpArgs false
namespace Go.Av
open Go.RowKit Go.Base
theorem negw (k : Nat) (h : k ≤ 9223372036854775807) : IntKind.wrap .i64 (IntKind.wrap .u64 (IntKind.wrap .u64 (((BitVec.ofInt (IntKind.bits .u64) (if IntKind.signed .u64 then -1 else IntKind.max .u64) ^^^ BitVec.ofInt (IntKind.bits .u64) (k : Int)).toNat : Nat) : Int) + 1)) = -(k : Int) := by
  have e0 : (BitVec.ofInt (IntKind.bits .u64) (if IntKind.signed .u64 then -1 else IntKind.max .u64) ^^^ BitVec.ofInt (IntKind.bits .u64) (k : Int)).toNat = 18446744073709551615 - k := by
    show (BitVec.ofInt 64 ((18446744073709551615 : Nat) : Int) ^^^ BitVec.ofInt 64 (k : Int)).toNat = _
    rw [BitVec.ofInt_natCast, BitVec.ofInt_natCast]
    have e : BitVec.ofNat 64 18446744073709551615 = BitVec.allOnes 64 := by decide
    rw [e, BitVec.allOnes_xor, BitVec.toNat_not, BitVec.toNat_ofNat, Nat.mod_eq_of_lt (by omega)]
  rw [e0, IntKind.wrap_u64, IntKind.wrap_u64, IntKind.wrap_i64]
  omega
theorem s56 (a c : Int) (h1 : -9223372036854775806 ≤ a) (h2 : a ≤ 9223372036854775806) (h3 : 0 < c) (h4 : c ≤ 9223372036854775807) : m56 a c = some (a / c, 0) := by
  have c0 : (c == 0) = false := by rw [beq_eq_false_iff_ne]; omega
  have sa := s64 a (by omega) (by omega)
  have s1 : m64 1 = some 1 := s64 1 (by omega) (by omega)
  have sc := s64 c (by omega) (by omega)
  have d1 : decide ((1 : Int) < 0) = false := rfl
  have d2 : decide (c < 0) = false := decide_eq_false (by omega)
  have f1 : (true != false) = true := rfl
  have f2 : (false != false) = false := rfl
  have z1 : ((0 : Int) == 1) = false := rfl
  have z2 : ((0 : Int) == 2) = false := rfl
  have zz : ((0 : Int) != 0) = false := rfl
  obtain ⟨d, rfl⟩ : ∃ d : Nat, c = (d : Int) := ⟨c.toNat, by omega⟩
  have hd : 0 < d := by omega
  rw [Int.natAbs_natCast] at sc
  have hle : d ≤ 9223372036854775807 := by omega
  have hn : a.natAbs ≤ 9223372036854775806 := by omega
  have p := s63 a.natAbs (by omega)
  have q := s65 0 a.natAbs d (by omega) (by omega) (by omega) hd
  rw [Nat.zero_mul, Nat.zero_add] at q
  have hr := Nat.div_add_mod a.natAbs d
  have hlt := Nat.mod_lt a.natAbs hd
  have hdiv : a.natAbs / d ≤ a.natAbs := Nat.div_le_self _ _
  generalize a.natAbs / d = Q at q hr hdiv
  generalize a.natAbs % d = R at q hr hlt
  have hQ0 : Q / 18446744073709551616 = 0 := by omega
  have hQ1 : Q % 18446744073709551616 = Q := by omega
  rw [hQ0, hQ1] at q
  have q : m65 0 (a.natAbs : Int) (d : Int) = some (0, (Q : Int), (R : Int)) := q
  have hr' : (d : Int) * (Q : Int) + (R : Int) = (a.natAbs : Int) := by exact_mod_cast hr
  have l1 : decide ((9223372036854775808 : Int) < (Q : Int)) = false := decide_eq_false (by omega)
  have l2 : ((Q : Int) == (9223372036854775808 : Int)) = false := by rw [beq_eq_false_iff_ne]; omega
  by_cases ha : a < 0
  · have g : decide (a < 0) = true := decide_eq_true ha
    by_cases hz : R = 0
    · subst hz
      have e : a / (d : Int) = -(Q : Int) := by
        have h5 : a = -(Q : Int) * (d : Int) := by
          rw [Int.neg_mul]
          have : (d : Int) * Q = Q * d := Int.mul_comm _ _
          omega
        rw [h5, Int.mul_ediv_cancel _ (by omega)]
      have hz' : (((0 : Nat) : Int) != 0) = false := rfl
      have w := negw Q (by omega)
      rw [e, m56, m56_1]
      have key : m58 a 1 (d : Int) 0 = some (-(Q : Int), 0) := by
        unfold m58 m58_1
        simp only [c0, d2, Bool.false_eq_true, if_false, sa, s1, p, Option.bind_some]
        simp only [sc, q, Option.bind_some, z1, z2, Bool.false_eq_true, if_false]
        simp only [g, d1, f1, hz', zz, l1, l2, Bool.and_false, Bool.or_false, Bool.false_and, Bool.false_eq_true, if_false, if_true, w]
      rw [key]
      rfl
    · have e : a / (d : Int) = -((Q + 1 : Nat) : Int) := by
        have h5 : a = -((Q + 1 : Nat) : Int) * (d : Int) + ((d : Int) - R) := by
          rw [Int.natCast_add, Int.neg_mul, Int.add_mul]
          have : (d : Int) * Q = Q * d := Int.mul_comm _ _
          omega
        rw [h5, Int.add_comm, Int.add_mul_ediv_right _ _ (by omega), Int.ediv_eq_zero_of_lt (by omega) (by omega)]
        omega
      have hz' : ((R : Int) != 0) = true := by rw [bne_iff_ne]; omega
      have w1 : IntKind.wrap .u64 ((Q : Int) + 1) = ((Q + 1 : Nat) : Int) := by rw [wu (by omega) (by omega)]; rfl
      have l0 : (((Q + 1 : Nat) : Int) == 0) = false := by rw [beq_eq_false_iff_ne]; omega
      have l3 : decide ((9223372036854775808 : Int) < ((Q + 1 : Nat) : Int)) = false := decide_eq_false (by omega)
      have l4 : (((Q + 1 : Nat) : Int) == (9223372036854775808 : Int)) = false := by rw [beq_eq_false_iff_ne]; omega
      have w := negw (Q + 1) (by omega)
      rw [e, m56, m56_1]
      have key : m58 a 1 (d : Int) 0 = some (-((Q + 1 : Nat) : Int), 0) := by
        unfold m58 m58_1
        simp only [c0, d2, Bool.false_eq_true, if_false, sa, s1, p, Option.bind_some]
        simp only [sc, q, Option.bind_some, z1, z2, Bool.false_eq_true, if_false]
        simp only [g, d1, f1, hz', zz, w1, l0, l3, l4, Bool.and_false, Bool.or_false, Bool.false_and, Bool.true_and, Bool.false_eq_true, if_false, if_true, w]
      rw [key]
      rfl
  · have g : decide (a < 0) = false := decide_eq_false ha
    have e : a / (d : Int) = (Q : Int) := by
      have h5 : a = (R : Int) + (Q : Int) * (d : Int) := by
        have : (d : Int) * Q = Q * d := Int.mul_comm _ _
        omega
      rw [h5, Int.add_mul_ediv_right _ _ (by omega), Int.ediv_eq_zero_of_lt (by omega) (by omega)]
      omega
    have w : IntKind.wrap .i64 (Q : Int) = (Q : Int) := w64 (by omega) (by omega)
    rw [e, m56, m56_1]
    have key : m58 a 1 (d : Int) 0 = some ((Q : Int), 0) := by
      unfold m58 m58_1
      simp only [c0, d2, Bool.false_eq_true, if_false, sa, s1, p, Option.bind_some]
      simp only [sc, q, Option.bind_some, z1, z2, Bool.false_eq_true, if_false]
      simp only [g, d1, f2, zz, l1, l2, Bool.and_false, Bool.or_false, Bool.false_and, Bool.false_eq_true, if_false, if_true, w]
    rw [key]
    rfl
end Go.Av

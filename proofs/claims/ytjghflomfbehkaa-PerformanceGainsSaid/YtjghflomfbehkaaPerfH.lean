/- The long division of the specification's Floor, in plain terms. -/
import Derived.Test.YtjghflomfbehkaaPerfG
set_option linter.unusedSimpArgs false
namespace Go.Av
open Go.RowKit Go.Base
/-- The state of the long division after k rounds. -/
structure Dv (N c k hi lo qhi qlo r : Nat) : Prop where
  b1 : hi < 18446744073709551616
  b2 : lo < 18446744073709551616
  b3 : qhi < 18446744073709551616
  b4 : qlo < 18446744073709551616
  b5 : r < c
  b6 : c < 18446744073709551616
  ex : ∃ M, N * 2 ^ k = M * 340282366920938463463374607431768211456 + (hi * 18446744073709551616 + lo) ∧ M = (qhi * 18446744073709551616 + qlo) * c + r ∧ M < 2 ^ k

def up (r hi : Nat) : Nat := r * 2 % 18446744073709551616 + hi / 9223372036854775808
theorem Dv.step {N c k hi lo qhi qlo r : Nat} (h : Dv N c k hi lo qhi qlo r) (hk : k < 128) (b : Bool) (r' : Nat)
    (ht : if b then c ≤ r * 2 + hi / 9223372036854775808 ∧ r' + c = r * 2 + hi / 9223372036854775808 else r * 2 + hi / 9223372036854775808 < c ∧ r' = r * 2 + hi / 9223372036854775808) :
    Dv N c (k + 1) (up hi lo) (lo * 2 % 18446744073709551616) (up qhi qlo) (qlo * 2 % 18446744073709551616 + if b then 1 else 0) r' := by
  obtain ⟨h1, h2, h3, h4, h5, h6, M, e1, e2, e3⟩ := h
  have hp : (2 : Nat) ^ (k + 1) = 2 * 2 ^ k := by rw [Nat.pow_succ, Nat.mul_comm]
  have hp2 : (2 : Nat) ^ k ≤ 170141183460469231731687303715884105728 := by
    have : (2 : Nat) ^ k ≤ 2 ^ 127 := Nat.pow_le_pow_right (by omega) (by omega)
    exact this
  have hQ : (qhi * 18446744073709551616 + qlo) < 170141183460469231731687303715884105728 := by
    have : (qhi * 18446744073709551616 + qlo) * 1 ≤ (qhi * 18446744073709551616 + qlo) * c := Nat.mul_le_mul_left _ (by omega)
    omega
  unfold up
  have hc2 : ∀ Q : Nat, (2 * Q) * c = 2 * (Q * c) := fun Q => Nat.mul_assoc _ _ _
  cases b
  · simp only [Bool.false_eq_true, if_false] at ht ⊢
    refine ⟨by omega, by omega, by omega, by omega, by omega, h6, 2 * M + hi / 9223372036854775808, ?_, ?_, by omega⟩
    · rw [hp, Nat.mul_left_comm, e1]; omega
    · have e : (qhi * 2 % 18446744073709551616 + qlo / 9223372036854775808) * 18446744073709551616 + (qlo * 2 % 18446744073709551616 + 0) = 2 * (qhi * 18446744073709551616 + qlo) := by omega
      rw [e, hc2]; omega
  · simp only [if_true] at ht ⊢
    refine ⟨by omega, by omega, by omega, by omega, by omega, h6, 2 * M + hi / 9223372036854775808, ?_, ?_, by omega⟩
    · rw [hp, Nat.mul_left_comm, e1]; omega
    · have e : (qhi * 2 % 18446744073709551616 + qlo / 9223372036854775808) * 18446744073709551616 + (qlo * 2 % 18446744073709551616 + 1) = 2 * (qhi * 18446744073709551616 + qlo) + 1 := by omega
      rw [e, Nat.add_mul, hc2]; omega
theorem Dv.fin {N c hi lo qhi qlo r : Nat} (h : Dv N c 128 hi lo qhi qlo r) : qhi = N / c / 18446744073709551616 ∧ qlo = N / c % 18446744073709551616 ∧ r = N % c := by
  obtain ⟨h1, h2, h3, h4, h5, h6, M, e1, e2, e3⟩ := h
  have e4 : (2 : Nat) ^ 128 = 340282366920938463463374607431768211456 := rfl
  rw [e4] at e1
  have hM : M = N := by omega
  clear e1 e4
  subst hM
  have hd : M / c = qhi * 18446744073709551616 + qlo := by
    rw [e2, Nat.mul_comm, Nat.mul_add_div (by omega), Nat.div_eq_of_lt h5]; omega
  have hm : M % c = r := by
    rw [e2, Nat.mul_comm, Nat.mul_add_mod, Nat.mod_eq_of_lt h5]
  rw [hd, hm]
  omega
theorem Dv.start (hi lo c : Nat) (h1 : hi < 18446744073709551616) (h2 : lo < 18446744073709551616) (h3 : c < 18446744073709551616) (h4 : 0 < c) : Dv (hi * 18446744073709551616 + lo) c 0 hi lo 0 0 0 :=
  ⟨h1, h2, by omega, by omega, h4, h3, 0, by omega, by omega, by omega⟩

/-- The same over the frame's numbers. -/
structure DvI (N c k : Nat) (H L QH QL R : Int) : Prop where
  ex : ∃ hi lo qhi qlo r : Nat, H = (hi : Int) ∧ L = (lo : Int) ∧ QH = (qhi : Int) ∧ QL = (qlo : Int) ∧ R = (r : Int) ∧ Dv N c k hi lo qhi qlo r

theorem join1 (x y : Nat) (hx : x % 2 = 0) (hy : y < 2) : x ||| y = x + y := by
  have h : x = (x / 2) <<< 1 := by rw [Nat.shiftLeft_eq]; omega
  have h2 := Nat.shiftLeft_add_eq_or_of_lt (b := y) (i := 1) (by omega) (x / 2)
  rw [← h] at h2
  exact h2.symm
theorem upI (hi lo : Nat) (h : lo < 18446744073709551616) : bits .or .u64 (IntKind.u64.wrap ((hi : Int) * 2)) ((lo : Int) / 9223372036854775808) = ((up hi lo : Nat) : Int) := by
  have e1 : IntKind.u64.wrap ((hi : Int) * 2) = ((hi * 2 % 18446744073709551616 : Nat) : Int) := by rw [IntKind.wrap_u64]; omega
  have e2 : (lo : Int) / 9223372036854775808 = ((lo / 9223372036854775808 : Nat) : Int) := by omega
  rw [e1, e2, bits_or_u64_nat _ _ (by omega) (by omega), join1 _ _ (by omega) (by omega)]
  rfl
theorem twoI (lo : Nat) : IntKind.u64.wrap ((lo : Int) * 2) = ((lo * 2 % 18446744073709551616 : Nat) : Int) := by rw [IntKind.wrap_u64]; omega
theorem oneI (lo : Nat) : bits .or .u64 (IntKind.u64.wrap ((lo : Int) * 2)) 1 = ((lo * 2 % 18446744073709551616 + 1 : Nat) : Int) := by
  rw [twoI, show (1 : Int) = ((1 : Nat) : Int) from rfl, bits_or_u64_nat _ _ (by omega) (by omega), join1 _ _ (by omega) (by omega)]
theorem DvI.yes {N c k : Nat} {H L QH QL R C : Int} (h : DvI N c k H L QH QL R) (hC : (c : Int) = C) (hk : k < 128)
    (ht : R / 9223372036854775808 = 1 ∨ C ≤ bits .or .u64 (IntKind.u64.wrap (R * 2)) (H / 9223372036854775808)) :
    DvI N c (k + 1) (bits .or .u64 (IntKind.u64.wrap (H * 2)) (L / 9223372036854775808)) (IntKind.u64.wrap (L * 2)) (bits .or .u64 (IntKind.u64.wrap (QH * 2)) (QL / 9223372036854775808)) (bits .or .u64 (IntKind.u64.wrap (QL * 2)) 1)
      (IntKind.u64.wrap (bits .or .u64 (IntKind.u64.wrap (R * 2)) (H / 9223372036854775808) - C)) := by
  obtain ⟨⟨hi, lo, qhi, qlo, r, rfl, rfl, rfl, rfl, rfl, hd⟩⟩ := h
  subst hC
  have b1 := hd.b1
  have b2 := hd.b2
  have b4 := hd.b4
  have b5 := hd.b5
  have b6 := hd.b6
  rw [upI _ _ b1] at ht
  rw [upI _ _ b2, upI _ _ b4, oneI, twoI, upI _ _ b1]
  have hu : up r hi = r * 2 % 18446744073709551616 + hi / 9223372036854775808 := rfl
  have hc : c ≤ r * 2 + hi / 9223372036854775808 := by omega
  refine ⟨_, _, _, _, r * 2 + hi / 9223372036854775808 - c, rfl, rfl, rfl, rfl, ?_, hd.step hk true _ ⟨hc, by omega⟩⟩
  rw [IntKind.wrap_u64, hu]
  omega
theorem DvI.no {N c k : Nat} {H L QH QL R C : Int} (h : DvI N c k H L QH QL R) (hC : (c : Int) = C) (hk : k < 128)
    (h0 : ¬ R / 9223372036854775808 = 1) (ht : bits .or .u64 (IntKind.u64.wrap (R * 2)) (H / 9223372036854775808) < C) :
    DvI N c (k + 1) (bits .or .u64 (IntKind.u64.wrap (H * 2)) (L / 9223372036854775808)) (IntKind.u64.wrap (L * 2)) (bits .or .u64 (IntKind.u64.wrap (QH * 2)) (QL / 9223372036854775808)) (IntKind.u64.wrap (QL * 2))
      (bits .or .u64 (IntKind.u64.wrap (R * 2)) (H / 9223372036854775808)) := by
  obtain ⟨⟨hi, lo, qhi, qlo, r, rfl, rfl, rfl, rfl, rfl, hd⟩⟩ := h
  subst hC
  have b1 := hd.b1
  have b2 := hd.b2
  have b4 := hd.b4
  have b5 := hd.b5
  have b6 := hd.b6
  rw [upI _ _ b1] at ht
  rw [upI _ _ b2, upI _ _ b4, twoI, twoI, upI _ _ b1]
  have hu : up r hi = r * 2 % 18446744073709551616 + hi / 9223372036854775808 := rfl
  exact ⟨_, _, _, _, _, rfl, rfl, rfl, rfl, rfl, hd.step hk false _ ⟨by omega, by omega⟩⟩
theorem DvI.fin {N c : Nat} {H L QH QL R : Int} (h : DvI N c 128 H L QH QL R) : QH = ((N / c / 18446744073709551616 : Nat) : Int) ∧ QL = ((N / c % 18446744073709551616 : Nat) : Int) ∧ R = ((N % c : Nat) : Int) := by
  obtain ⟨⟨hi, lo, qhi, qlo, r, rfl, rfl, rfl, rfl, rfl, hd⟩⟩ := h
  obtain ⟨e1, e2, e3⟩ := hd.fin
  rw [← e1, ← e2, ← e3]
  exact ⟨rfl, rfl, rfl⟩

theorem or_bits (a b : Int) : IntKind.wrap .u64 (((BitVec.ofInt (IntKind.bits .u64) a ||| BitVec.ofInt (IntKind.bits .u64) b).toNat : Nat) : Int) = bits .or .u64 a b := rfl
theorem sh1 (x : Int) : x * 2 ^ (min (1 : Int).toNat (IntKind.bits .u64)) = x * 2 := by
  rw [show min (1 : Int).toNat (IntKind.bits .u64) = 1 by decide]; omega
theorem sh63 (x : Int) : Int.fdiv x (2 ^ (min (63 : Int).toNat (IntKind.bits .u64))) = x / 9223372036854775808 := by
  rw [show min (63 : Int).toNat (IntKind.bits .u64) = 63 by decide, Int.fdiv_eq_ediv_of_nonneg _ (by decide)]; rfl
theorem div_loop {N c : Nat} {a0 a1 : Int} : ∀ (m k : Nat) (H L QH QL R : Int), 128 - k = m → k ≤ 128 → DvI N c k H L QH QL R →
    ∃ H' L', loopO (b65_7 a0 a1 (c : Int)) (H, L, QH, QL, R, (k : Int)) = some (H', L', ((N / c / 18446744073709551616 : Nat) : Int), ((N / c % 18446744073709551616 : Nat) : Int), ((N % c : Nat) : Int), 128)
  | 0, k, H, L, QH, QL, R, hm, hk, h => by
    obtain rfl : k = 128 := by omega
    obtain ⟨rfl, rfl, rfl⟩ := h.fin
    refine ⟨H, L, ?_⟩
    have h1 : ¬ (((128 : Nat) : Int) < 128) := by decide
    rw [loopO_eq]
    simp only [b65_7, m65_1, m65_2, m65_5, m65_7, m65_8, m65_9, m65_11, m65_12, m65_13, m65, h1, decide_false, Bool.false_eq_true, if_false]
    rfl
  | m + 1, k, H, L, QH, QL, R, hm, hk, h => by
    have h1 : (k : Int) < 128 := by omega
    have w : IntKind.wrap .i64 ((k : Int) + 1) = ((k + 1 : Nat) : Int) := by rw [w64 (by omega) (by omega)]; rfl
    have l63 : (0 : Int) ≤ 63 := by decide
    have l1 : (0 : Int) ≤ 1 := by decide
    rw [loopO_eq]
    simp only [b65_7, m65_1, m65_2, m65_5, m65_7, m65_8, m65_9, m65_11, m65_12, m65_13, m65, h1, l63, l1, decide_true, if_true, sh1, sh63, or_bits, w]
    by_cases c1 : R / 9223372036854775808 = 1 ∨ (c : Int) ≤ bits .or .u64 (IntKind.u64.wrap (R * 2)) (H / 9223372036854775808)
    · have hc : ((R / 9223372036854775808 == 1) || decide ((c : Int) ≤ bits .or .u64 (IntKind.u64.wrap (R * 2)) (H / 9223372036854775808))) = true := by
        rcases c1 with c1 | c1
        · rw [c1]; rfl
        · rw [decide_eq_true c1, Bool.or_true]
      rw [if_pos hc]
      exact div_loop m (k + 1) _ _ _ _ _ (by omega) (by omega) (h.yes rfl (by omega) c1)
    · have hc : ((R / 9223372036854775808 == 1) || decide ((c : Int) ≤ bits .or .u64 (IntKind.u64.wrap (R * 2)) (H / 9223372036854775808))) = false := by
        rw [Bool.or_eq_false_iff, beq_eq_false_iff_ne, decide_eq_false_iff_not]
        exact ⟨fun e => c1 (.inl e), fun e => c1 (.inr e)⟩
      rw [if_neg (by rw [hc]; exact Bool.false_ne_true)]
      exact div_loop m (k + 1) _ _ _ _ _ (by omega) (by omega) (h.no rfl (by omega) (fun e => c1 (.inl e)) (by have := fun e => c1 (.inr e); omega))
theorem s65 (hi lo c : Nat) (h1 : hi < 18446744073709551616) (h2 : lo < 18446744073709551616) (h3 : c < 18446744073709551616) (h4 : 0 < c) :
    m65 hi lo c = some ((((hi * 18446744073709551616 + lo) / c / 18446744073709551616 : Nat) : Int), (((hi * 18446744073709551616 + lo) / c % 18446744073709551616 : Nat) : Int), (((hi * 18446744073709551616 + lo) % c : Nat) : Int)) := by
  have h0 := Dv.start hi lo c h1 h2 h3 h4
  generalize hi * 18446744073709551616 + lo = N at h0 ⊢
  obtain ⟨H', L', e⟩ := div_loop (N := N) (c := c) (a0 := (hi : Int)) (a1 := (lo : Int)) 128 0 hi lo 0 0 0 rfl (by omega) ⟨hi, lo, 0, 0, 0, rfl, rfl, rfl, rfl, rfl, h0⟩
  have e2 : loopO (b65_7 (hi : Int) (lo : Int) (c : Int)) ((hi : Int), (lo : Int), (0 : Int), (0 : Int), (0 : Int), (0 : Int)) = _ := e
  simp only [m65_1, m65_2, m65_5, m65_7, m65_8, m65_9, m65_11, m65_12, m65_13, m65, Option.bind_some, e2]
theorem s64 (a : Int) (h1 : -9223372036854775808 ≤ a) (h2 : a ≤ 9223372036854775807) : m64 a = some (a.natAbs : Int) := by
  unfold m64 m64_1
  by_cases h : a < 0
  · have w1 : IntKind.wrap .i64 (a + 1) = a + 1 := w64 (by omega) (by omega)
    have w2 : IntKind.wrap .i64 (0 - (a + 1)) = 0 - (a + 1) := w64 (by omega) (by omega)
    have w3 : IntKind.wrap .u64 (0 - (a + 1)) = 0 - (a + 1) := wu (by omega) (by omega)
    have w4 : IntKind.wrap .u64 (0 - (a + 1) + 1) = (a.natAbs : Int) := by rw [wu (by omega) (by omega)]; omega
    simp only [h, decide_true, if_true, w1, w2, w3, w4]
  · have w1 : IntKind.wrap .u64 a = (a.natAbs : Int) := by rw [wu (by omega) (by omega)]; omega
    simp only [h, decide_false, Bool.false_eq_true, if_false, w1]
theorem s63 (n : Nat) (h : n < 18446744073709551616) : m63 n 1 = some (0, (n : Int)) := by
  have p32 : (2 ^ (min (32 : Int).toNat (IntKind.bits .u64)) : Int) = 4294967296 := by decide
  have l : (0 : Int) ≤ 32 := by decide
  have o1 : (((BitVec.ofInt (IntKind.bits .u64) (1 : Int)) &&& (BitVec.ofInt (IntKind.bits .u64) (4294967295 : Int))).toNat : Int) = 1 := by decide
  have d1 : Int.fdiv (1 : Int) 4294967296 = 0 := by decide
  have q1 : Int.fdiv (n : Int) 4294967296 = ((n / 4294967296 : Nat) : Int) := by
    rw [Int.fdiv_eq_ediv_of_nonneg _ (by decide)]; rfl
  have q2 : Int.fdiv ((n % 4294967296 : Nat) : Int) 4294967296 = 0 := by
    rw [Int.fdiv_eq_ediv_of_nonneg _ (by decide)]; omega
  have q3 : Int.fdiv ((n / 4294967296 : Nat) : Int) 4294967296 = 0 := by
    rw [Int.fdiv_eq_ediv_of_nonneg _ (by decide)]; omega
  have wa : IntKind.wrap .u64 ((n / 4294967296 : Nat) : Int) = ((n / 4294967296 : Nat) : Int) := wu (by omega) (by omega)
  have wb : IntKind.wrap .u64 ((n % 4294967296 : Nat) : Int) = ((n % 4294967296 : Nat) : Int) := wu (by omega) (by omega)
  have w0 : IntKind.wrap .u64 0 = 0 := by decide
  have w1 : IntKind.wrap .u64 1 = 1 := by decide
  have am := and_mask n h
  have am2 := and_mask (n / 4294967296) (by omega)
  have am3 := and_mask (n % 4294967296) (by omega)
  have hm : (n / 4294967296) % 4294967296 = n / 4294967296 := Nat.mod_eq_of_lt (by omega)
  rw [hm] at am2
  rw [Nat.mod_mod] at am3
  have fin : IntKind.wrap .u64 ((((BitVec.ofInt (IntKind.bits .u64) (IntKind.wrap .u64 (((n / 4294967296 : Nat) : Int) * 4294967296))) ||| (BitVec.ofInt (IntKind.bits .u64) ((n % 4294967296 : Nat) : Int))).toNat : Nat) : Int) = (n : Int) := by
    have e1 : IntKind.wrap .u64 (((n / 4294967296 : Nat) : Int) * 4294967296) = ((n / 4294967296 * 4294967296 : Nat) : Int) := by rw [wu (by omega) (by omega)]; rfl
    rw [e1, or_bits, bits_or_u64_nat _ _ (by omega) (by omega)]
    have hx : n / 4294967296 * 4294967296 = (n / 4294967296) <<< 32 := by rw [Nat.shiftLeft_eq]
    have h2 := Nat.shiftLeft_add_eq_or_of_lt (b := n % 4294967296) (i := 32) (by omega) (n / 4294967296)
    rw [← hx] at h2
    rw [← h2]
    omega
  simp only [m63, m63_1, p32, l, if_true, o1, d1, q1, am, w0, w1, wa, wb, Int.mul_one, Int.mul_zero, Int.zero_mul, Int.add_zero, Int.zero_add, q2, q3, am2, am3, fin]
end Go.Av

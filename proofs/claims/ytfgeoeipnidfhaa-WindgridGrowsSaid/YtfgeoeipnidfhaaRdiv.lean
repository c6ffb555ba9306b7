/- The reference's long division. -/
import Derived.Test.YtfgeoeipnidfhaaRprod
namespace Go.Proofs.Ytfgeoeipnidfhaa
open Go.RowKit Go.Base

/-- The state of the long division after k rounds. -/
structure Dv (N c k hi lo qhi qlo r : Nat) : Prop where
  b1 : hi < 18446744073709551616
  b2 : lo < 18446744073709551616
  b3 : qhi < 18446744073709551616
  b4 : qlo < 18446744073709551616
  b5 : r < c
  b6 : c < 18446744073709551616
  ex : ∃ M, N * 2 ^ k = M * 340282366920938463463374607431768211456 + (hi * 18446744073709551616 + lo) ∧ M = (qhi * 18446744073709551616 + qlo) * c + r ∧ M < 2 ^ k

def up (r hi : Nat) : Nat := r * 2 % 18446744073709551616 + hi / 9223372036854775808
theorem Dv.step {N c k hi lo qhi qlo r : Nat} (h : Dv N c k hi lo qhi qlo r) (hk : k < 128) (b : Bool) (r' : Nat)
    (ht : if b then c ≤ r * 2 + hi / 9223372036854775808 ∧ r' + c = r * 2 + hi / 9223372036854775808 else r * 2 + hi / 9223372036854775808 < c ∧ r' = r * 2 + hi / 9223372036854775808) :
    Dv N c (k + 1) (up hi lo) (lo * 2 % 18446744073709551616) (up qhi qlo) (qlo * 2 % 18446744073709551616 + if b then 1 else 0) r' := by
  obtain ⟨h1, h2, h3, h4, h5, h6, M, e1, e2, e3⟩ := h
  have hp : (2 : Nat) ^ (k + 1) = 2 * 2 ^ k := by rw [Nat.pow_succ, Nat.mul_comm]
  have hp2 : (2 : Nat) ^ k ≤ 170141183460469231731687303715884105728 := by
    have : (2 : Nat) ^ k ≤ 2 ^ 127 := Nat.pow_le_pow_right (by omega) (by omega)
    exact this
  have hQ : (qhi * 18446744073709551616 + qlo) < 170141183460469231731687303715884105728 := by
    have : (qhi * 18446744073709551616 + qlo) * 1 ≤ (qhi * 18446744073709551616 + qlo) * c := Nat.mul_le_mul_left _ (by omega)
    omega
  unfold up
  have hc2 : ∀ Q : Nat, (2 * Q) * c = 2 * (Q * c) := fun Q => Nat.mul_assoc _ _ _
  cases b
  · simp only [Bool.false_eq_true, if_false] at ht ⊢
    refine ⟨by omega, by omega, by omega, by omega, by omega, h6, 2 * M + hi / 9223372036854775808, ?_, ?_, by omega⟩
    · rw [hp, Nat.mul_left_comm, e1]; omega
    · have e : (qhi * 2 % 18446744073709551616 + qlo / 9223372036854775808) * 18446744073709551616 + (qlo * 2 % 18446744073709551616 + 0) = 2 * (qhi * 18446744073709551616 + qlo) := by omega
      rw [e, hc2]; omega
  · simp only [if_true] at ht ⊢
    refine ⟨by omega, by omega, by omega, by omega, by omega, h6, 2 * M + hi / 9223372036854775808, ?_, ?_, by omega⟩
    · rw [hp, Nat.mul_left_comm, e1]; omega
    · have e : (qhi * 2 % 18446744073709551616 + qlo / 9223372036854775808) * 18446744073709551616 + (qlo * 2 % 18446744073709551616 + 1) = 2 * (qhi * 18446744073709551616 + qlo) + 1 := by omega
      rw [e, Nat.add_mul, hc2]; omega
theorem Dv.fin {N c hi lo qhi qlo r : Nat} (h : Dv N c 128 hi lo qhi qlo r) : qhi = N / c / 18446744073709551616 ∧ qlo = N / c % 18446744073709551616 ∧ r = N % c := by
  obtain ⟨h1, h2, h3, h4, h5, h6, M, e1, e2, e3⟩ := h
  have e4 : (2 : Nat) ^ 128 = 340282366920938463463374607431768211456 := rfl
  rw [e4] at e1
  have hM : M = N := by omega
  clear e1 e4
  subst hM
  have hd : M / c = qhi * 18446744073709551616 + qlo := by
    rw [e2, Nat.mul_comm, Nat.mul_add_div (by omega), Nat.div_eq_of_lt h5]; omega
  have hm : M % c = r := by
    rw [e2, Nat.mul_comm, Nat.mul_add_mod, Nat.mod_eq_of_lt h5]
  rw [hd, hm]
  omega
theorem Dv.start (hi lo c : Nat) (h1 : hi < 18446744073709551616) (h2 : lo < 18446744073709551616) (h3 : c < 18446744073709551616) (h4 : 0 < c) : Dv (hi * 18446744073709551616 + lo) c 0 hi lo 0 0 0 :=
  ⟨h1, h2, by omega, by omega, h4, h3, 0, by omega, by omega, by omega⟩

/-- The same over the frame's numbers. -/
structure DvI (N c k : Nat) (H L QH QL R : Int) : Prop where
  ex : ∃ hi lo qhi qlo r : Nat, H = (hi : Int) ∧ L = (lo : Int) ∧ QH = (qhi : Int) ∧ QL = (qlo : Int) ∧ R = (r : Int) ∧ Dv N c k hi lo qhi qlo r

theorem join1 (x y : Nat) (hx : x % 2 = 0) (hy : y < 2) : x ||| y = x + y := by
  have h : x = (x / 2) <<< 1 := by rw [Nat.shiftLeft_eq]; omega
  have h2 := Nat.shiftLeft_add_eq_or_of_lt (b := y) (i := 1) (by omega) (x / 2)
  rw [← h] at h2
  exact h2.symm
theorem upI (hi lo : Nat) (h : lo < 18446744073709551616) : bits .or .u64 (IntKind.u64.wrap ((hi : Int) * 2)) ((lo : Int) / 9223372036854775808) = ((up hi lo : Nat) : Int) := by
  have e1 : IntKind.u64.wrap ((hi : Int) * 2) = ((hi * 2 % 18446744073709551616 : Nat) : Int) := by rw [IntKind.wrap_u64]; omega
  have e2 : (lo : Int) / 9223372036854775808 = ((lo / 9223372036854775808 : Nat) : Int) := by omega
  rw [e1, e2, bits_or_u64_nat _ _ (by omega) (by omega), join1 _ _ (by omega) (by omega)]
  rfl
theorem twoI (lo : Nat) : IntKind.u64.wrap ((lo : Int) * 2) = ((lo * 2 % 18446744073709551616 : Nat) : Int) := by rw [IntKind.wrap_u64]; omega
theorem oneI (lo : Nat) : bits .or .u64 (IntKind.u64.wrap ((lo : Int) * 2)) 1 = ((lo * 2 % 18446744073709551616 + 1 : Nat) : Int) := by
  rw [twoI, show (1 : Int) = ((1 : Nat) : Int) from rfl, bits_or_u64_nat _ _ (by omega) (by omega), join1 _ _ (by omega) (by omega)]
theorem DvI.yes {N c k : Nat} {H L QH QL R C : Int} (h : DvI N c k H L QH QL R) (hC : (c : Int) = C) (hk : k < 128)
    (ht : R / 9223372036854775808 = 1 ∨ C ≤ bits .or .u64 (IntKind.u64.wrap (R * 2)) (H / 9223372036854775808)) :
    DvI N c (k + 1) (bits .or .u64 (IntKind.u64.wrap (H * 2)) (L / 9223372036854775808)) (IntKind.u64.wrap (L * 2)) (bits .or .u64 (IntKind.u64.wrap (QH * 2)) (QL / 9223372036854775808)) (bits .or .u64 (IntKind.u64.wrap (QL * 2)) 1)
      (IntKind.u64.wrap (bits .or .u64 (IntKind.u64.wrap (R * 2)) (H / 9223372036854775808) - C)) := by
  obtain ⟨⟨hi, lo, qhi, qlo, r, rfl, rfl, rfl, rfl, rfl, hd⟩⟩ := h
  subst hC
  have b1 := hd.b1
  have b2 := hd.b2
  have b4 := hd.b4
  have b5 := hd.b5
  have b6 := hd.b6
  rw [upI _ _ b1] at ht
  rw [upI _ _ b2, upI _ _ b4, oneI, twoI, upI _ _ b1]
  have hu : up r hi = r * 2 % 18446744073709551616 + hi / 9223372036854775808 := rfl
  have hc : c ≤ r * 2 + hi / 9223372036854775808 := by omega
  refine ⟨_, _, _, _, r * 2 + hi / 9223372036854775808 - c, rfl, rfl, rfl, rfl, ?_, hd.step hk true _ ⟨hc, by omega⟩⟩
  rw [IntKind.wrap_u64, hu]
  omega
theorem DvI.no {N c k : Nat} {H L QH QL R C : Int} (h : DvI N c k H L QH QL R) (hC : (c : Int) = C) (hk : k < 128)
    (h0 : ¬ R / 9223372036854775808 = 1) (ht : bits .or .u64 (IntKind.u64.wrap (R * 2)) (H / 9223372036854775808) < C) :
    DvI N c (k + 1) (bits .or .u64 (IntKind.u64.wrap (H * 2)) (L / 9223372036854775808)) (IntKind.u64.wrap (L * 2)) (bits .or .u64 (IntKind.u64.wrap (QH * 2)) (QL / 9223372036854775808)) (IntKind.u64.wrap (QL * 2))
      (bits .or .u64 (IntKind.u64.wrap (R * 2)) (H / 9223372036854775808)) := by
  obtain ⟨⟨hi, lo, qhi, qlo, r, rfl, rfl, rfl, rfl, rfl, hd⟩⟩ := h
  subst hC
  have b1 := hd.b1
  have b2 := hd.b2
  have b4 := hd.b4
  have b5 := hd.b5
  have b6 := hd.b6
  rw [upI _ _ b1] at ht
  rw [upI _ _ b2, upI _ _ b4, twoI, twoI, upI _ _ b1]
  have hu : up r hi = r * 2 % 18446744073709551616 + hi / 9223372036854775808 := rfl
  exact ⟨_, _, _, _, _, rfl, rfl, rfl, rfl, rfl, hd.step hk false _ ⟨by omega, by omega⟩⟩
theorem DvI.fin {N c : Nat} {H L QH QL R : Int} (h : DvI N c 128 H L QH QL R) : QH = ((N / c / 18446744073709551616 : Nat) : Int) ∧ QL = ((N / c % 18446744073709551616 : Nat) : Int) ∧ R = ((N % c : Nat) : Int) := by
  obtain ⟨⟨hi, lo, qhi, qlo, r, rfl, rfl, rfl, rfl, rfl, hd⟩⟩ := h
  obtain ⟨e1, e2, e3⟩ := hd.fin
  rw [← e1, ← e2, ← e3]
  exact ⟨rfl, rfl, rfl⟩

set_option maxRecDepth 100000 in
set_option maxHeartbeats 1000000 in
theorem divide_any (hi lo c : Nat) (h1 : hi < 18446744073709551616) (h2 : lo < 18446744073709551616) (h3 : c < 18446744073709551616) (h4 : 0 < c) (w : World) :
    Calls Try.prog 56 #[.int .u64 hi, .int .u64 lo, .int .u64 c] w fun e w' => e = .returned (.tuple #[.int .u64 (((hi * 18446744073709551616 + lo) / c / 18446744073709551616 : Nat) : Int), .int .u64 (((hi * 18446744073709551616 + lo) / c % 18446744073709551616 : Nat) : Int), .int .u64 (((hi * 18446744073709551616 + lo) % c : Nat) : Int)]) ∧ w = w' := by
  have h0 := hide (Dv.start hi lo c h1 h2 h3 h4)
  obtain ⟨N, hN⟩ : ∃ N, hi * 18446744073709551616 + lo = N := ⟨_, rfl⟩
  obtain ⟨C, hC⟩ : ∃ C : Int, (c : Int) = C := ⟨_, rfl⟩
  rw [hN] at h0 ⊢
  rw [hC]
  have HC := hide hC
  clear hN h1 h2 h3 h4 hC
  go_enter Try.func56, Try.ntmps56
  go_wp2
  go_loop [0, 1, 6, 7, 8, 9, 10] (fun vh vl vqh vql vr i _ => ∃ (k : Nat) (H L QH QL R : Int), k ≤ 128 ∧ i = .int .i64 k ∧ vh = .int .u64 H ∧ vl = .int .u64 L ∧ vqh = .int .u64 QH ∧ vql = .int .u64 QL ∧ vr = .int .u64 R ∧ DvI N c k H L QH QL R) (fun _ _ _ _ _ i _ => 128 - (intOf i).toNat)
  case atStart => exact ⟨0, _, _, 0, 0, 0, by omega, rfl, rfl, rfl, rfl, rfl, rfl, ⟨hi, lo, 0, 0, 0, rfl, rfl, rfl, rfl, rfl, h0.out⟩⟩
  case round =>
    obtain ⟨k, H, L, QH, QL, R, hk, rfl, rfl, rfl, rfl, rfl, rfl, hd⟩ := hrel
    have HD := hide hd
    clear hd
    by_cases hlt : k < 128
    · go_wp2
      · go_round
        case rel => exact ⟨k + 1, _, _, _, _, _, by omega, by go_num, rfl, rfl, rfl, rfl, rfl, HD.out.yes HC.out hlt (.inl ‹_›)⟩
        case measure => simp [intOf]; omega
      · rename_i hn ho
        have ht := ho.resolve_left (by simpa using hn)
        go_round
        case rel => exact ⟨k + 1, _, _, _, _, _, by omega, by go_num, rfl, rfl, rfl, rfl, rfl, HD.out.yes HC.out hlt (.inr ht)⟩
        case measure => simp [intOf]; omega
      · rename_i hn ho
        go_round
        case rel => exact ⟨k + 1, _, _, _, _, _, by omega, by go_num, rfl, rfl, rfl, rfl, rfl, HD.out.no HC.out hlt hn ho.2⟩
        case measure => simp [intOf]; omega
    · obtain rfl : k = 128 := by omega
      obtain ⟨rfl, rfl, rfl⟩ := HD.out.fin
      go_wp2
      go_ret3
      exact ⟨rfl, rfl⟩
end Go.Proofs.Ytfgeoeipnidfhaa

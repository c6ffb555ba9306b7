/- Quotients rounded: the reference's. -/
import Derived.Test.YtfgeoeipnidfhaaRdiv
namespace Go.Proofs.Ytfgeoeipnidfhaa
open Go.RowKit Go.Base

theorem product_small (x y : Nat) (hx : x < 18446744073709551616) (hy : y < 18446744073709551616) (h : x * y < 18446744073709551616) (w : World) :
    Calls Try.prog 54 #[.int .u64 x, .int .u64 y] w fun e w' => e = .returned (.tuple #[.int .u64 0, .int .u64 ((x * y : Nat) : Int)]) ∧ w = w' := by
  refine (product_any x y hx hy w).mono ?_
  rintro e w' ⟨rfl, rfl⟩
  rw [Nat.div_eq_of_lt h, Nat.mod_eq_of_lt h]
  exact ⟨rfl, rfl⟩
theorem divide_small (x c : Nat) (h1 : x < 18446744073709551616) (h3 : c < 18446744073709551616) (h4 : 0 < c) (w : World) :
    Calls Try.prog 56 #[.int .u64 0, .int .u64 x, .int .u64 c] w fun e w' => e = .returned (.tuple #[.int .u64 0, .int .u64 ((x / c : Nat) : Int), .int .u64 ((x % c : Nat) : Int)]) ∧ w = w' := by
  refine (divide_any 0 x c (by omega) h1 h3 h4 w).mono ?_
  rintro e w' ⟨rfl, rfl⟩
  have h := Nat.lt_of_le_of_lt (Nat.div_le_self x c) h1
  rw [Nat.zero_mul, Nat.zero_add, Nat.div_eq_of_lt h, Nat.mod_eq_of_lt h]
  exact ⟨rfl, rfl⟩
theorem not_u64 (k : Nat) (h : k < 18446744073709551616) : bits .xor .u64 IntKind.u64.max (k : Int) = ((18446744073709551615 - k : Nat) : Int) := by
  show IntKind.u64.wrap ((BitVec.ofInt 64 ((18446744073709551615 : Nat) : Int) ^^^ BitVec.ofInt 64 (k : Int)).toNat : Int) = _
  rw [BitVec.ofInt_natCast, BitVec.ofInt_natCast]
  have e : BitVec.ofNat 64 18446744073709551615 = BitVec.allOnes 64 := by decide
  rw [e, BitVec.allOnes_xor, BitVec.toNat_not, BitVec.toNat_ofNat, Nat.mod_eq_of_lt (by omega), IntKind.wrap_u64]
  omega
theorem neg_word {n : Int} (h0 : 0 ≤ n) (h1 : n ≤ 9223372036854775807) : wrap64 (IntKind.u64.wrap (bits .xor .u64 IntKind.u64.max n + 1)) = -n := by
  obtain ⟨k, rfl⟩ := Int.eq_ofNat_of_zero_le h0
  rw [not_u64 k (by omega), IntKind.wrap_u64]
  unfold wrap64
  omega

set_option maxRecDepth 100000 in
set_option maxHeartbeats 1000000 in
theorem rquo_0 (a b c : Int) (ha : i64 a) (hb : i64 b) (hc : i64 c) (hc0 : c ≠ 0) (hP : a.natAbs * b.natAbs ≤ 9223372036854775806) (w : World) :
    Calls Try.prog 52 #[.int .i64 a, .int .i64 b, .int .i64 c, .int .i64 0] w fun e w' => e = .returned (.tuple #[.int .i64 (Fx.mulDiv 0 a b c), .int .i64 0]) ∧ w = w' := by
  have hz : (c == 0) = false := by simpa using hc0
  have HE := hide (Fx.mulDiv_eq 0 a b c hc0)
  have HS := hide ha
  have HT := hide hb
  have HU := hide hc
  have HP := hide hP
  have HA := hide (size_lt ha)
  have HB := hide (size_lt hb)
  have HC := hide (size_lt hc)
  have HD := hide (show 0 < c.natAbs by omega)
  clear ha hb hc hc0 hP
  obtain ⟨sa, hsa⟩ : ∃ s, decide (a < 0) = s := ⟨_, rfl⟩
  obtain ⟨sb, hsb⟩ : ∃ s, decide (b < 0) = s := ⟨_, rfl⟩
  obtain ⟨sc, hsc⟩ : ∃ s, decide (c < 0) = s := ⟨_, rfl⟩
  have HN := hide (show Fx.negOf a b c = ((sa != sb) != sc) by unfold Fx.negOf; rw [hsa, hsb, hsc])
  obtain ⟨q, hq⟩ : ∃ q : Int, ((a.natAbs * b.natAbs / c.natAbs : Nat) : Int) = q := ⟨_, rfl⟩
  obtain ⟨r, hr⟩ : ∃ r : Int, ((a.natAbs * b.natAbs % c.natAbs : Nat) : Int) = r := ⟨_, rfl⟩
  have hq1 : 0 ≤ q := hq ▸ Int.natCast_nonneg _
  have hq2 : q ≤ 9223372036854775806 := by
    have h1 := HP.out; have h2 := Nat.div_le_self (a.natAbs * b.natAbs) c.natAbs
    have h3 : ((a.natAbs * b.natAbs / c.natAbs : Nat) : Int) ≤ 9223372036854775806 := by
      generalize a.natAbs * b.natAbs / c.natAbs = x at *; omega
    rw [hq] at h3; exact h3
  have hr1 : 0 ≤ r := hr ▸ Int.natCast_nonneg _
  have HQ := hide hq
  have HR := hide hr
  clear hq hr
  have HL := hide (show r ≤ (c.natAbs : Int) by
    have := Nat.mod_lt (a.natAbs * b.natAbs) HD.out
    have h3 := HR.out
    generalize a.natAbs * b.natAbs % c.natAbs = x at *; omega)
  have hL := HL.out
  go_enter Try.func52, Try.ntmps52
  cases sa <;> cases sb <;> cases sc
  all_goals
    go_wp2_with fail
    refine (rsize_any _ HS.out.1 HS.out.2 _).mono ?_
    rintro e w' ⟨rfl, rfl⟩
    go_wp2_with fail
    refine (rsize_any _ HT.out.1 HT.out.2 _).mono ?_
    rintro e w' ⟨rfl, rfl⟩
    go_wp2_with fail
    refine (product_small _ _ HA.out HB.out (by have := HP.out; omega) _).mono ?_
    rintro e w' ⟨rfl, rfl⟩
    go_wp2_with fail
    refine (rsize_any _ HU.out.1 HU.out.2 _).mono ?_
    rintro e w' ⟨rfl, rfl⟩
    go_wp2_with fail
    refine (divide_small _ _ (by have := HP.out; omega) HC.out HD.out _).mono ?_
    rintro e w' ⟨rfl, rfl⟩
    rw [HQ.out, HR.out]
    go_wp2_with fail
    refine (rsize_any _ HU.out.1 HU.out.2 _).mono ?_
    rintro e w' ⟨rfl, rfl⟩
    go_wp2_with fail
    all_goals
      go_ret2
      refine ⟨?_, rfl⟩
      refine ret_int2 ?_
      rw [← HE.out, HN.out]
      refine quo_fin HQ.out HR.out ?_
      simp [Fx.away]
      try (first
        | (rw [neg_word (by omega) (by omega)]; simp at *; first | omega | (split <;> omega))
        | (simp at *; first | omega | (split <;> omega)))

theorem rfloor_any (a c : Int) (ha : i64 a) (hc : i64 c) (hc0 : 0 < c) (hP : a.natAbs ≤ 9223372036854775806) (w : World) :
    Calls Try.prog 47 #[.int .i64 a, .int .i64 c] w fun e w' => e = .returned (.tuple #[.int .i64 (a / c), .int .i64 0]) ∧ w = w' := by
  have HC := hide (rquo_0 a 1 c ha (by unfold i64; omega) hc (by omega) (by simpa using hP))
  rw [Fx.mulDiv_floor a 1 c hc0, Int.mul_one] at HC
  go_enter Try.func47, Try.ntmps47
  go_wp2_with fail
  refine (HC.out _).mono ?_
  rintro e w' ⟨rfl, rfl⟩
  go_wp2_with fail
  go_ret2
  exact ⟨rfl, rfl⟩
end Go.Proofs.Ytfgeoeipnidfhaa

/- Quotients rounded: the program's. -/
import Derived.Test.YtfgeoeipnidfhaaMul
import Derived.Test.YtfgeoeipnidfhaaBase
namespace Go.Proofs.Ytfgeoeipnidfhaa
open Go.RowKit Go.Base

def i64 (a : Int) : Prop := -9223372036854775808 ≤ a ∧ a ≤ 9223372036854775807
theorem size_lt {a : Int} (h : i64 a) : a.natAbs < 18446744073709551616 := by unfold i64 at h; omega
/-- Nothing but draws. -/
def Drew (w w' : World) : Prop := ∃ n, w' = w.drewN n
theorem mul64_small (x y : Nat) (hx : x < 18446744073709551616) (hy : y < 18446744073709551616) (h : x * y < 18446744073709551616) (w : World) :
    Calls Try.prog 49 #[.int .u64 x, .int .u64 y] w fun e w' => e = .returned (.tuple #[.int .u64 0, .int .u64 ((x * y : Nat) : Int)]) ∧ w = w' := by
  refine (mul64_any x y hx hy w).mono ?_
  rintro e w' ⟨rfl, rfl⟩
  rw [Nat.div_eq_of_lt h, Nat.mod_eq_of_lt h]
  exact ⟨rfl, rfl⟩

theorem quo_fin {m : Nat} {N : Bool} {P D : Nat} {q r X : Int} (hq : ((P / D : Nat) : Int) = q) (hr : ((P % D : Nat) : Int) = r)
    (h : X = if N then -(q + if Fx.away m N D r.toNat then 1 else 0) else q + if Fx.away m N D r.toNat then 1 else 0) : X = Fx.quoS m N P D := by
  subst hq hr
  rw [Int.toNat_natCast] at h
  rw [h]
  unfold Fx.quoS
  split <;> simp <;> split <;> simp
theorem drew_two {w : World} {n m : Nat} {e e' : Ending} (h : e = e') : e = e' ∧ Drew w (w.drewN n) := ⟨h, n, rfl⟩

set_option maxHeartbeats 1000000 in
theorem scale_0 (a b c : Int) (ha : i64 a) (hb : i64 b) (hc : i64 c) (hc0 : c ≠ 0) (hP : a.natAbs * b.natAbs ≤ 9223372036854775806) (w : World) :
    Calls Try.prog 46 #[.int .i64 a, .int .i64 b, .int .i64 c, .int .u8 0] w fun e w' => e = .returned (.tuple #[.int .i64 (Fx.mulDiv 0 a b c), .int .i64 0]) ∧ Drew w w' := by
  have hz : (c == 0) = false := by simpa using hc0
  have HE := hide (Fx.mulDiv_eq 0 a b c hc0)
  have HS := hide ha
  have HT := hide hb
  have HU := hide hc
  have HP := hide hP
  have hda : a.natAbs ≤ 9223372036854775808 := by unfold i64 at ha; omega
  have HA := hide (size_lt ha)
  have HB := hide (size_lt hb)
  have HC := hide (size_lt hc)
  have HD := hide (show 0 < c.natAbs by omega)
  clear hda ha hb hc hc0 hP
  obtain ⟨sa, hsa⟩ : ∃ s, decide (a < 0) = s := ⟨_, rfl⟩
  obtain ⟨sb, hsb⟩ : ∃ s, decide (b < 0) = s := ⟨_, rfl⟩
  obtain ⟨sc, hsc⟩ : ∃ s, decide (c < 0) = s := ⟨_, rfl⟩
  have HN := hide (show Fx.negOf a b c = ((sa != sb) != sc) by unfold Fx.negOf; rw [hsa, hsb, hsc])
  go_enter Try.func46, Try.ntmps46
  go_wp2_with fail
  refine (size_any _ HU.out.1 HU.out.2 _).mono ?_
  rintro e w' ⟨rfl, rfl⟩
  go_wp2_with fail
  refine (size_any _ HS.out.1 HS.out.2 _).mono ?_
  rintro e w' ⟨rfl, rfl⟩
  go_wp2_with fail
  refine (size_any _ HT.out.1 HT.out.2 _).mono ?_
  rintro e w' ⟨rfl, rfl⟩
  go_wp2_with fail
  refine (mul64_small _ _ HA.out HB.out (by have := HP.out; omega) _).mono ?_
  rintro e w' ⟨rfl, rfl⟩
  have hd0 : 0 < (c.natAbs : Int) := by have := HD.out; omega
  go_wp2_with fail
  refine (div64_one _ _ (by have := HP.out; omega) HC.out HD.out _).mono ?_
  rintro e w' ⟨rfl, n, rfl⟩
  clear hd0
  obtain ⟨q, hq⟩ : ∃ q : Int, ((a.natAbs * b.natAbs / c.natAbs : Nat) : Int) = q := ⟨_, rfl⟩
  obtain ⟨r, hr⟩ : ∃ r : Int, ((a.natAbs * b.natAbs % c.natAbs : Nat) : Int) = r := ⟨_, rfl⟩
  rw [hq, hr]
  have hq1 : 0 ≤ q := hq ▸ Int.natCast_nonneg _
  have hq2 : q ≤ 9223372036854775806 := by
    have h1 := HP.out; have h2 := Nat.div_le_self (a.natAbs * b.natAbs) c.natAbs
    have h3 : ((a.natAbs * b.natAbs / c.natAbs : Nat) : Int) ≤ 9223372036854775806 := by
      generalize a.natAbs * b.natAbs / c.natAbs = x at *; omega
    rw [hq] at h3; exact h3
  have hr1 : 0 ≤ r := hr ▸ Int.natCast_nonneg _
  have HQ := hide hq
  have HR := hide hr
  clear hq hr
  have HL := hide (show r ≤ (c.natAbs : Int) by
    have := Nat.mod_lt (a.natAbs * b.natAbs) HD.out
    have h3 := HR.out
    generalize a.natAbs * b.natAbs % c.natAbs = x at *; omega)
  have hL := HL.out
  cases sa <;> cases sb <;> cases sc
  all_goals
    go_wp2_with fail
    all_goals
      first
        | (with_reducible refine (signed_neg _ ?_ ?_ _).mono ?_)
        | (with_reducible refine (signed_pos _ ?_ ?_ _).mono ?_)
      · omega
      · omega
      rintro e w' ⟨rfl, rfl⟩
      go_wp2_with fail
      go_ret2
      refine ⟨?_, n, rfl⟩
      refine ret_int2 ?_
      rw [← HE.out, HN.out]
      refine quo_fin HQ.out HR.out ?_
      simp [Fx.away]
      try omega

/-- How a quotient is rounded: m = 0 down, 1 up, 2 to the nearest. -/
theorem floor_any (a c : Int) (ha : i64 a) (hc : i64 c) (hc0 : 0 < c) (hP : a.natAbs ≤ 9223372036854775806) (w : World) :
    Calls Try.prog 43 #[.int .i64 a, .int .i64 c] w fun e w' => e = .returned (.tuple #[.int .i64 (a / c), .int .i64 0]) ∧ Drew w w' := by
  have HC := hide (scale_0 a 1 c ha (by unfold i64; omega) hc (by omega) (by simpa using hP))
  rw [Fx.mulDiv_floor a 1 c hc0, Int.mul_one] at HC
  go_enter Try.func43, Try.ntmps43
  go_wp2_with fail
  refine (HC.out _).mono ?_
  rintro e w' ⟨rfl, n, rfl⟩
  go_wp2_with fail
  go_ret2
  exact ⟨rfl, n, rfl⟩
end Go.Proofs.Ytfgeoeipnidfhaa

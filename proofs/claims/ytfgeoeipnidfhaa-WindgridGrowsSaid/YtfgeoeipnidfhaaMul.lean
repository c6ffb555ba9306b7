/- The library's full product and its quotient of a number of one word; sizes and signs: the program's and the reference's. -/
import Derived.Test.YtfgeoeipnidfhaaRows
import Derived.WalkKit
import Derived.Lib.Mul64
import Derived.Laws.Bits64b
import Derived.WalkSpells
import Derived.WalkLawsBesides
import Derived.BigQuiet
import Derived.Deep.QuietTactic
import Derived.Test.YtfgeoeipnidfhaaFx
namespace Go.Proofs.Ytfgeoeipnidfhaa
open Go.RowKit

theorem maskN (a : Nat) (ha : a < 18446744073709551616) : bits .and .u64 (a : Int) 4294967295 = ((a % 4294967296 : Nat) : Int) := by
  have h := bits_and_u64_nat a 4294967295 ha (by omega)
  have e : a &&& 4294967295 = a % 4294967296 := Nat.and_two_pow_sub_one_eq_mod a 32
  rw [e] at h
  exact h
theorem divN (a : Nat) : (a : Int) / 4294967296 = ((a / 4294967296 : Nat) : Int) := by omega
theorem mulN (a b : Nat) : (a : Int) * (b : Int) = ((a * b : Nat) : Int) := (Int.natCast_mul a b).symm
theorem addN (a b : Nat) : (a : Int) + (b : Int) = ((a + b : Nat) : Int) := (Int.natCast_add a b).symm
theorem wrapN (a : Nat) (ha : a < 18446744073709551616) : IntKind.u64.wrap (a : Int) = (a : Int) := by rw [IntKind.wrap_u64]; omega
theorem wrapM (a : Nat) : IntKind.u64.wrap (a : Int) = ((a % 18446744073709551616 : Nat) : Int) := by rw [IntKind.wrap_u64]; omega

set_option maxHeartbeats 1000000 in
theorem mul64_any (x y : Nat) (hx : x < 18446744073709551616) (hy : y < 18446744073709551616) (w : World) :
    Calls Try.prog 49 #[.int .u64 x, .int .u64 y] w fun e w' => e = .returned (.tuple #[.int .u64 ((x * y / 18446744073709551616 : Nat) : Int), .int .u64 ((x * y % 18446744073709551616 : Nat) : Int)]) ∧ w = w' := by
  obtain ⟨bd, bt, bw, hhi⟩ := Lib.mul64_hi x y hx hy
  have ba := Lib.half_mul_le (a := x / 4294967296) (b := y / 4294967296) (by omega) (by omega)
  have bb := Lib.half_mul_le (a := x / 4294967296) (b := y % 4294967296) (by omega) (by omega)
  have bc := Lib.half_mul_le (a := x % 4294967296) (b := y / 4294967296) (by omega) (by omega)
  have ba' : x / 4294967296 * (y / 4294967296) < 18446744073709551616 := by omega
  have bb' : x / 4294967296 * (y % 4294967296) < 18446744073709551616 := by omega
  have bc' : x % 4294967296 * (y / 4294967296) < 18446744073709551616 := by omega
  have bh1 : x / 4294967296 * (y / 4294967296) + (x / 4294967296 * (y % 4294967296) + x % 4294967296 * (y % 4294967296) / 4294967296) / 4294967296 < 18446744073709551616 := by omega
  have bh : x / 4294967296 * (y / 4294967296) + (x / 4294967296 * (y % 4294967296) + x % 4294967296 * (y % 4294967296) / 4294967296) / 4294967296 + ((x / 4294967296 * (y % 4294967296) + x % 4294967296 * (y % 4294967296) / 4294967296) % 4294967296 + x % 4294967296 * (y / 4294967296)) / 4294967296 < 18446744073709551616 := by omega
  go_enter Try.func49, Try.ntmps49
  go_wp2
  simp only [maskN x hx, maskN y hy, divN, mulN, addN, wrapN _ bd, wrapN _ bb', wrapN _ bt, maskN _ bt, wrapN _ bc', wrapN _ bw, wrapN _ ba', wrapN _ bh1, wrapN _ bh, wrapM (x * y)]
  rw [hhi]
  go_ret2
  exact ⟨rfl, rfl⟩

set_option maxHeartbeats 1000000 in
theorem div64_one (x y : Nat) (hx : x < 18446744073709551616) (hy : y < 18446744073709551616) (h0 : 0 < y) (w : World) :
    Calls Try.prog 50 #[.int .u64 0, .int .u64 x, .int .u64 y] w fun e w' => e = .returned (.tuple #[.int .u64 ((x / y : Nat) : Int), .int .u64 ((x % y : Nat) : Int)]) ∧ ∃ n, w' = w.drewN n := by
  have h1 : 1 ≤ (y : Int) := by omega
  have hd1 : IntKind.u64.wrap ((x : Int) / (y : Int)) = (x : Int) / (y : Int) := by
    rw [← Int.natCast_ediv, wrapN _ (Nat.lt_of_le_of_lt (Nat.div_le_self _ _) hx)]
  have hd2 : IntKind.u64.wrap ((x : Int) % (y : Int)) = (x : Int) % (y : Int) := by
    rw [← Int.natCast_emod, wrapN _ (Nat.lt_of_le_of_lt (Nat.mod_le _ _) hx)]
  go_enter Try.func50, Try.ntmps50
  go_wp2
  go_quiet (fail)
  go_wp2
  go_ret2
  refine ⟨?_, _, rfl⟩
  show Ending.returned (.tuple #[.int .u64 _, .int .u64 _]) = _
  rw [Int.natCast_ediv, Int.natCast_emod]

theorem ret_int {k : IntKind} {a b : Int} (h : a = b) : Ending.returned (.int k a) = .returned (.int k b) := by rw [h]
/-- The size of a number. -/
theorem size_any (a : Int) (h1 : -9223372036854775808 ≤ a) (h2 : a ≤ 9223372036854775807) (w : World) :
    Calls Try.prog 48 #[.int .i64 a] w fun e w' => e = .returned (.int .u64 (a.natAbs : Nat)) ∧ w = w' := by
  by_cases h : a < 0
  all_goals
    go_enter Try.func48, Try.ntmps48
    go_wp2
    go_ret
    exact ⟨ret_int (by first | (rw [IntKind.wrap_u64, IntKind.wrap_u64]; omega) | omega), rfl⟩
theorem rsize_any (a : Int) (h1 : -9223372036854775808 ≤ a) (h2 : a ≤ 9223372036854775807) (w : World) :
    Calls Try.prog 55 #[.int .i64 a] w fun e w' => e = .returned (.int .u64 (a.natAbs : Nat)) ∧ w = w' := by
  by_cases h : a < 0
  all_goals
    go_enter Try.func55, Try.ntmps55
    go_wp2
    go_ret
    exact ⟨ret_int (by omega), rfl⟩
theorem ret_int2 {k l : IntKind} {a b c : Int} (h : a = b) : Ending.returned (.tuple #[.int k a, .int l c]) = .returned (.tuple #[.int k b, .int l c]) := by rw [h]
set_option maxRecDepth 10000 in
theorem signed_neg (n : Int) (h0 : 0 ≤ n) (h : n ≤ 9223372036854775807) (w : World) :
    Calls Try.prog 51 #[.int .u64 n, .bool true] w fun e w' => e = .returned (.tuple #[.int .i64 (-n), .int .i64 0]) ∧ w = w' := by
  go_enter Try.func51, Try.ntmps51
  go_wp2
  go_ret2
  exact ⟨ret_int2 (by rw [IntKind.wrap_u64]; unfold wrap64; omega), rfl⟩
theorem signed_pos (n : Int) (h0 : 0 ≤ n) (h : n ≤ 9223372036854775807) (w : World) :
    Calls Try.prog 51 #[.int .u64 n, .bool false] w fun e w' => e = .returned (.tuple #[.int .i64 n, .int .i64 0]) ∧ w = w' := by
  go_enter Try.func51, Try.ntmps51
  go_wp2
  go_ret2
  exact ⟨rfl, rfl⟩
end Go.Proofs.Ytfgeoeipnidfhaa

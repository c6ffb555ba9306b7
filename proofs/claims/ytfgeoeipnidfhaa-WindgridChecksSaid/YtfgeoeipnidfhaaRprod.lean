/- The reference's full product. -/
import Derived.Test.YtfgeoeipnidfhaaScale
namespace Go.Proofs.Ytfgeoeipnidfhaa
open Go.RowKit Go.Base

theorem ret_nat2 {k l : IntKind} {a b : Int} {c d : Nat} (h : a = (c : Int)) (h' : b = (d : Int)) : Ending.returned (.tuple #[.int k a, .int l b]) = .returned (.tuple #[.int k c, .int l d]) := by rw [h, h']
theorem join32 (x y : Nat) (hx : x % 4294967296 = 0) (hy : y < 4294967296) : x ||| y = x + y := by
  have h : x = (x / 4294967296) <<< 32 := by rw [Nat.shiftLeft_eq]; omega
  have h2 := Nat.shiftLeft_add_eq_or_of_lt (b := y) (i := 32) (by omega) (x / 4294967296)
  rw [← h] at h2
  exact h2.symm
theorem orN (a b : Nat) (ha : a < 18446744073709551616) (hb : b < 4294967296) (h : a % 4294967296 = 0) : bits .or .u64 (a : Int) (b : Int) = ((a + b : Nat) : Int) := by
  rw [bits_or_u64_nat a b ha (by omega), join32 a b h hb]
theorem mulH (n : Nat) : IntKind.u64.wrap ((n : Int) * 4294967296) = ((n * 4294967296 % 18446744073709551616 : Nat) : Int) := by rw [IntKind.wrap_u64]; omega
theorem prod_lo (x y : Nat) : ((x % 4294967296) * (y / 4294967296) + (x / 4294967296 * (y % 4294967296) + x % 4294967296 * (y % 4294967296) / 4294967296) % 4294967296) * 4294967296 % 18446744073709551616 + x % 4294967296 * (y % 4294967296) % 4294967296 = x * y % 18446744073709551616 := by
  have e : x * y = (x / 4294967296) * (y / 4294967296) * (4294967296 * 4294967296) + ((x / 4294967296) * (y % 4294967296) + (x % 4294967296) * (y / 4294967296)) * 4294967296 + (x % 4294967296) * (y % 4294967296) := by
    rw [← Lib.split_mul, Nat.div_add_mod' x 4294967296, Nat.div_add_mod' y 4294967296]
  rw [e]
  generalize (x / 4294967296) * (y / 4294967296) = a at *
  generalize (x / 4294967296) * (y % 4294967296) = b at *
  generalize (x % 4294967296) * (y / 4294967296) = c at *
  generalize (x % 4294967296) * (y % 4294967296) = d at *
  omega

set_option maxHeartbeats 1000000 in
theorem product_any (x y : Nat) (hx : x < 18446744073709551616) (hy : y < 18446744073709551616) (w : World) :
    Calls Try.prog 54 #[.int .u64 x, .int .u64 y] w fun e w' => e = .returned (.tuple #[.int .u64 ((x * y / 18446744073709551616 : Nat) : Int), .int .u64 ((x * y % 18446744073709551616 : Nat) : Int)]) ∧ w = w' := by
  obtain ⟨bd, bt, bw, hhi⟩ := Lib.mul64_hi x y hx hy
  have hlo := prod_lo x y
  have ba := Lib.half_mul_le (a := x / 4294967296) (b := y / 4294967296) (by omega) (by omega)
  have bb := Lib.half_mul_le (a := x / 4294967296) (b := y % 4294967296) (by omega) (by omega)
  have bc := Lib.half_mul_le (a := x % 4294967296) (b := y / 4294967296) (by omega) (by omega)
  have ba' : x / 4294967296 * (y / 4294967296) < 18446744073709551616 := by omega
  have bb' : x / 4294967296 * (y % 4294967296) < 18446744073709551616 := by omega
  have bc' : x % 4294967296 * (y / 4294967296) < 18446744073709551616 := by omega
  have bh1 : x / 4294967296 * (y / 4294967296) + (x / 4294967296 * (y % 4294967296) + x % 4294967296 * (y % 4294967296) / 4294967296) / 4294967296 < 18446744073709551616 := by omega
  have bh : x / 4294967296 * (y / 4294967296) + (x / 4294967296 * (y % 4294967296) + x % 4294967296 * (y % 4294967296) / 4294967296) / 4294967296 + ((x / 4294967296 * (y % 4294967296) + x % 4294967296 * (y % 4294967296) / 4294967296) % 4294967296 + x % 4294967296 * (y / 4294967296)) / 4294967296 < 18446744073709551616 := by omega
  rw [Nat.add_comm ((x / 4294967296 * (y % 4294967296) + x % 4294967296 * (y % 4294967296) / 4294967296) % 4294967296) (x % 4294967296 * (y / 4294967296))] at bw hhi bh
  go_enter Try.func54, Try.ntmps54
  have A1 := hide bd
  have A2 := hide bt
  have A3 := hide bw
  have A4 := hide hhi
  have A5 := hide hlo
  have A6 := hide ba'
  have A7 := hide bb'
  have A8 := hide bc'
  have A9 := hide bh1
  have A10 := hide bh
  clear bd bt bw hhi hlo ba bb bc ba' bb' bc' bh1 bh
  go_wp2
  go_ret2
  refine ⟨ret_nat2 (l := .u64) ?_ ?_, rfl⟩
  · show IntKind.u64.wrap _ = _
    simp only [maskN x hx, maskN y hy, divN, mulN, addN, wrapN _ A1.out, wrapN _ A7.out, wrapN _ A2.out, maskN _ A2.out, wrapN _ A8.out, wrapN _ A3.out, wrapN _ A6.out, wrapN _ A9.out, wrapN _ A10.out, A4.out]
    exact wrapN _ (by have := A10.out; rw [A4.out] at this; exact this)
  · show bits .or .u64 _ _ = _
    simp only [maskN x hx, maskN y hy, divN, mulN, addN, wrapN _ A1.out, wrapN _ A7.out, wrapN _ A2.out, maskN _ A1.out, maskN _ A2.out, wrapN _ A8.out, wrapN _ A3.out, mulH]
    rw [orN _ _ (by omega) (by omega) (by omega), A5.out]
end Go.Proofs.Ytfgeoeipnidfhaa

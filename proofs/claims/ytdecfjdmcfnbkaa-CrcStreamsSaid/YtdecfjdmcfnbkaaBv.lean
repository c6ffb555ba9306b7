/- The machine's words of 8 and 32 bits read as bit vectors: what each operation of the program's text does to them. -/
import Derived.WalkKit
import Derived.Test.YtdecfjdmcfnbkaaPlain
namespace Go.Bv
open Go.RowKit

/-- The number of a word: a name of its own, so that the walk does not look into it. -/
def n32 (x : BitVec 32) : Int := (x.toNat : Int)
def n8 (x : BitVec 8) : Int := (x.toNat : Int)
theorem n32_lo (x : BitVec 32) : 0 ≤ n32 x := by unfold n32; omega
theorem n32_hi (x : BitVec 32) : n32 x ≤ 4294967295 := by unfold n32; have := x.isLt; omega
theorem n8_lo (x : BitVec 8) : 0 ≤ n8 x := by unfold n8; omega
theorem n8_hi (x : BitVec 8) : n8 x ≤ 255 := by unfold n8; have := x.isLt; omega
theorem n32_inj {a b : BitVec 32} (h : n32 a = n32 b) : a = b := BitVec.eq_of_toNat_eq (by unfold n32 at h; omega)
theorem n8_inj {a b : BitVec 8} (h : n8 a = n8 b) : a = b := BitVec.eq_of_toNat_eq (by unfold n8 at h; omega)
theorem ofInt_n32 (x : BitVec 32) : BitVec.ofInt 32 (n32 x) = x := by
  unfold n32; rw [BitVec.ofInt_natCast]; simp
theorem ofInt_n8 (x : BitVec 8) : BitVec.ofInt 8 (n8 x) = x := by
  unfold n8; rw [BitVec.ofInt_natCast]; simp
theorem wrap_n32 (a : BitVec 32) : IntKind.u32.wrap (a.toNat : Int) = n32 a := by rw [IntKind.wrap_u32]; unfold n32; have := a.isLt; omega
theorem wrap_n8 (a : BitVec 8) : IntKind.u8.wrap (a.toNat : Int) = n8 a := by rw [IntKind.wrap_u8]; unfold n8; have := a.isLt; omega
@[go_sem] theorem xor_u32 (a b : BitVec 32) : bits .xor .u32 (n32 a) (n32 b) = n32 (a ^^^ b) := by
  show IntKind.u32.wrap ((BitVec.ofInt 32 (n32 a) ^^^ BitVec.ofInt 32 (n32 b)).toNat : Int) = _
  rw [ofInt_n32, ofInt_n32, wrap_n32]
@[go_sem] theorem xor_u8 (a b : BitVec 8) : bits .xor .u8 (n8 a) (n8 b) = n8 (a ^^^ b) := by
  show IntKind.u8.wrap ((BitVec.ofInt 8 (n8 a) ^^^ BitVec.ofInt 8 (n8 b)).toNat : Int) = _
  rw [ofInt_n8, ofInt_n8, wrap_n8]
@[go_sem] theorem and_u32 (a b : BitVec 32) : bits .and .u32 (n32 a) (n32 b) = n32 (a &&& b) := by
  show IntKind.u32.wrap ((BitVec.ofInt 32 (n32 a) &&& BitVec.ofInt 32 (n32 b)).toNat : Int) = _
  rw [ofInt_n32, ofInt_n32, wrap_n32]
@[go_sem] theorem xor_poly (a : BitVec 32) : bits .xor .u32 (n32 a) 3988292384 = n32 (a ^^^ Crc.poly) := xor_u32 a Crc.poly
theorem and_one (a : BitVec 32) : bits .and .u32 (n32 a) 1 = if a.getLsbD 0 then 1 else 0 := by
  show IntKind.u32.wrap ((BitVec.ofInt 32 (n32 a) &&& BitVec.ofInt 32 ((1 : Nat) : Int)).toNat : Int) = _
  rw [ofInt_n32, BitVec.ofInt_natCast, wrap_n32, n32, BitVec.toNat_and, BitVec.getLsbD, Nat.testBit_zero]
  simp only [BitVec.toNat_ofNat, Nat.reducePow, Nat.reduceMod, Nat.and_one_is_mod]
  have := Nat.mod_two_eq_zero_or_one a.toNat
  rcases this with h | h <;> simp [h]
/-- The lowest bit, under a name of its own. -/
def low (a : BitVec 32) : Bool := a.getLsbD 0
@[go_sem] theorem and_one_is (a : BitVec 32) : (bits .and .u32 (n32 a) 1 == 1) = low a := by rw [and_one, low]; cases a.getLsbD 0 <;> rfl
@[go_sem] theorem and_one_not (a : BitVec 32) : (bits .and .u32 (n32 a) 1 == 0) = !low a := by rw [and_one, low]; cases a.getLsbD 0 <;> rfl
@[go_sem] theorem not_u32 (a : BitVec 32) : bits .xor .u32 4294967295 (n32 a) = n32 (~~~ a) := by
  have h := xor_u32 (BitVec.allOnes 32) a
  rw [BitVec.allOnes_xor] at h
  exact h
@[go_sem] theorem signed_u32 : IntKind.u32.signed = false := rfl
@[go_sem] theorem not_max (a : BitVec 32) : bits .xor .u32 IntKind.u32.max (n32 a) = n32 (~~~ a) := not_u32 a
theorem div_n32 (a : BitVec 32) (k : Nat) (_hk : k < 32) : n32 a / (2 ^ k : Nat) = n32 (a >>> k) := by
  unfold n32
  rw [BitVec.toNat_ushiftRight, Nat.shiftRight_eq_div_pow, Int.natCast_ediv]
@[go_sem] theorem shr1_u32 (a : BitVec 32) : n32 a / (2 : Int) = n32 (a >>> 1) := div_n32 a 1 (by omega)
@[go_sem] theorem shr8_u32 (a : BitVec 32) : n32 a / (256 : Int) = n32 (a >>> 8) := div_n32 a 8 (by omega)
@[go_sem] theorem shr16_u32 (a : BitVec 32) : n32 a / (65536 : Int) = n32 (a >>> 16) := div_n32 a 16 (by omega)
@[go_sem] theorem shr24_u32 (a : BitVec 32) : n32 a / (16777216 : Int) = n32 (a >>> 24) := div_n32 a 24 (by omega)
@[go_sem] theorem low8 (a : BitVec 32) : IntKind.u8.wrap (n32 a) = n8 (a.setWidth 8) := by
  unfold n32 n8
  rw [BitVec.toNat_setWidth, IntKind.wrap_u8]; omega
@[go_sem] theorem wide8 (b : BitVec 8) : IntKind.u32.wrap (n8 b) = n32 (b.setWidth 32) := by
  unfold n32 n8
  rw [BitVec.toNat_setWidth, IntKind.wrap_u32]
  have := b.isLt
  omega
theorem wrap_any8 (z : Int) : IntKind.u8.wrap z = n8 (BitVec.ofInt 8 z) := by
  rw [IntKind.wrap_u8, n8, BitVec.toNat_ofInt]
  omega
theorem mod_any8 (z : Int) : z % 256 = n8 (BitVec.ofInt 8 z) := by rw [← wrap_any8, IntKind.wrap_u8]
theorem beq_n32 (a b : BitVec 32) : (n32 a == n32 b) = (a == b) := by
  rw [Bool.eq_iff_iff]
  simp only [beq_iff_eq]
  exact ⟨n32_inj, fun h => by rw [h]⟩
theorem beq_n8 (a b : BitVec 8) : (n8 a == n8 b) = (a == b) := by
  rw [Bool.eq_iff_iff]
  simp only [beq_iff_eq]
  exact ⟨n8_inj, fun h => by rw [h]⟩
theorem shr_k (a : BitVec 32) (k : Nat) : n32 a / 2 ^ k = n32 (a >>> k) := by
  unfold n32
  rw [BitVec.toNat_ushiftRight, Nat.shiftRight_eq_div_pow, Int.natCast_ediv]
  simp
theorem bit_test (a : BitVec 32) (k : Nat) : (bits .and .u32 (n32 a / 2 ^ k) 1 == 0) = !a.getLsbD k := by
  rw [shr_k, and_one_not, low, BitVec.getLsbD_ushiftRight]
  rfl
theorem xor_pow (x : BitVec 8) (j : Nat) (hj : j < 8) : bits .xor .u8 (n8 x) (2 ^ j % 256) = n8 (x ^^^ (1 : BitVec 8) <<< j) := by
  have h : ((2 : Int) ^ j % 256) = n8 ((1 : BitVec 8) <<< j) := by
    unfold n8
    rw [BitVec.toNat_shiftLeft, Nat.shiftLeft_eq]
    rcases j with _ | _ | _ | _ | _ | _ | _ | _ | j <;> first | rfl | omega
  rw [h, xor_u8]
end Go.Bv

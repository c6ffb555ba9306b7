/- Bits of the charts' valuations; the first example of the chapter. -/
import Derived.Test.YtlpdcjbkbcmahaaDoorMoS
set_option linter.unusedVariables false
set_option linter.unusedSimpArgs false
set_option maxRecDepth 1000000
namespace Go.Av.Mo
open Go.Av.Ch
theorem bit1_GROUND {b : Nat} : bitV (valS C1 b : Int) 0 = b.testBit 0 := by
  have h := bit_valS (c := C1) (b := b) (j := 0) (by decide) (by decide)
  rw [h, show (posS C1 0).toNat = 0 from by kernel_rfl]
theorem bit1_HEADING {b : Nat} : bitV (valS C1 b : Int) 1 = b.testBit 1 := by
  have h := bit_valS (c := C1) (b := b) (j := 1) (by decide) (by decide)
  rw [h, show (posS C1 1).toNat = 1 from by kernel_rfl]
theorem bit1_NAV {b : Nat} : bitV (valS C1 b : Int) 2 = b.testBit 2 := by
  have h := bit_valS (c := C1) (b := b) (j := 2) (by decide) (by decide)
  rw [h, show (posS C1 2).toNat = 2 from by kernel_rfl]
theorem bit1_READY {b : Nat} : bitV (valS C1 b : Int) 3 = b.testBit 3 := by
  have h := bit_valS (c := C1) (b := b) (j := 3) (by decide) (by decide)
  rw [h, show (posS C1 3).toNat = 3 from by kernel_rfl]
theorem bit1_ZONE {b : Nat} : bitV (valS C1 b : Int) 4 = b.testBit 4 := by
  have h := bit_valS (c := C1) (b := b) (j := 4) (by decide) (by decide)
  rw [h, show (posS C1 4).toNat = 4 from by kernel_rfl]
theorem bit1_FINAL {b : Nat} : bitV (valS C1 b : Int) 5 = b.testBit 5 := by
  have h := bit_valS (c := C1) (b := b) (j := 5) (by decide) (by decide)
  rw [h, show (posS C1 5).toNat = 5 from by kernel_rfl]
theorem bit1_GO {b : Nat} : bitV (valS C1 b : Int) 6 = b.testBit 6 := by
  have h := bit_valS (c := C1) (b := b) (j := 6) (by decide) (by decide)
  rw [h, show (posS C1 6).toNat = 6 from by kernel_rfl]
theorem bit2_GROUND {b : Nat} : bitV (valS C2 b : Int) 0 = b.testBit 0 := by
  have h := bit_valS (c := C2) (b := b) (j := 0) (by decide) (by decide)
  rw [h, show (posS C2 0).toNat = 0 from by kernel_rfl]
theorem bit2_READY {b : Nat} : bitV (valS C2 b : Int) 1 = b.testBit 3 := by
  have h := bit_valS (c := C2) (b := b) (j := 1) (by decide) (by decide)
  rw [h, show (posS C2 1).toNat = 3 from by kernel_rfl]
theorem bit2_FINAL {b : Nat} : bitV (valS C2 b : Int) 2 = b.testBit 5 := by
  have h := bit_valS (c := C2) (b := b) (j := 2) (by decide) (by decide)
  rw [h, show (posS C2 2).toNat = 5 from by kernel_rfl]
theorem bit2_GO {b : Nat} : bitV (valS C2 b : Int) 3 = b.testBit 6 := by
  have h := bit_valS (c := C2) (b := b) (j := 3) (by decide) (by decide)
  rw [h, show (posS C2 3).toNat = 6 from by kernel_rfl]
theorem bit2_HOLD {b : Nat} : bitV (valS C2 b : Int) 4 = b.testBit 7 := by
  have h := bit_valS (c := C2) (b := b) (j := 4) (by decide) (by decide)
  rw [h, show (posS C2 4).toNat = 7 from by kernel_rfl]
theorem bit2_SPEED {b : Nat} : bitV (valS C2 b : Int) 5 = b.testBit 8 := by
  have h := bit_valS (c := C2) (b := b) (j := 5) (by decide) (by decide)
  rw [h, show (posS C2 5).toNat = 8 from by kernel_rfl]
theorem bit2_CHANGE {b : Nat} : bitV (valS C2 b : Int) 6 = b.testBit 9 := by
  have h := bit_valS (c := C2) (b := b) (j := 6) (by decide) (by decide)
  rw [h, show (posS C2 6).toNat = 9 from by kernel_rfl]
theorem bit2_ABOVE {b : Nat} : bitV (valS C2 b : Int) 7 = b.testBit 10 := by
  have h := bit_valS (c := C2) (b := b) (j := 7) (by decide) (by decide)
  rw [h, show (posS C2 7).toNat = 10 from by kernel_rfl]
theorem bit2_TAKE {b : Nat} : bitV (valS C2 b : Int) 8 = b.testBit 11 := by
  have h := bit_valS (c := C2) (b := b) (j := 8) (by decide) (by decide)
  rw [h, show (posS C2 8).toNat = 11 from by kernel_rfl]
theorem bit2_NEAR {b : Nat} : bitV (valS C2 b : Int) 9 = b.testBit 12 := by
  have h := bit_valS (c := C2) (b := b) (j := 9) (by decide) (by decide)
  rw [h, show (posS C2 9).toNat = 12 from by kernel_rfl]
theorem bit2_AT {b : Nat} : bitV (valS C2 b : Int) 10 = b.testBit 13 := by
  have h := bit_valS (c := C2) (b := b) (j := 10) (by decide) (by decide)
  rw [h, show (posS C2 10).toNat = 13 from by kernel_rfl]
theorem bit3_GROUND {b : Nat} : bitV (valS C3 b : Int) 0 = b.testBit 0 := by
  have h := bit_valS (c := C3) (b := b) (j := 0) (by decide) (by decide)
  rw [h, show (posS C3 0).toNat = 0 from by kernel_rfl]
theorem bit3_FINAL {b : Nat} : bitV (valS C3 b : Int) 1 = b.testBit 5 := by
  have h := bit_valS (c := C3) (b := b) (j := 1) (by decide) (by decide)
  rw [h, show (posS C3 1).toNat = 5 from by kernel_rfl]
theorem bit3_GO {b : Nat} : bitV (valS C3 b : Int) 2 = b.testBit 6 := by
  have h := bit_valS (c := C3) (b := b) (j := 2) (by decide) (by decide)
  rw [h, show (posS C3 2).toNat = 6 from by kernel_rfl]
theorem bit3_THRUST {b : Nat} : bitV (valS C3 b : Int) 3 = b.testBit 14 := by
  have h := bit_valS (c := C3) (b := b) (j := 3) (by decide) (by decide)
  rw [h, show (posS C3 3).toNat = 14 from by kernel_rfl]
theorem bit3_ACCEL {b : Nat} : bitV (valS C3 b : Int) 4 = b.testBit 15 := by
  have h := bit_valS (c := C3) (b := b) (j := 4) (by decide) (by decide)
  rw [h, show (posS C3 4).toNat = 15 from by kernel_rfl]
theorem bit3_LEVEL {b : Nat} : bitV (valS C3 b : Int) 5 = b.testBit 16 := by
  have h := bit_valS (c := C3) (b := b) (j := 5) (by decide) (by decide)
  rw [h, show (posS C3 5).toNat = 16 from by kernel_rfl]
theorem bit3_DOWN {b : Nat} : bitV (valS C3 b : Int) 6 = b.testBit 17 := by
  have h := bit_valS (c := C3) (b := b) (j := 6) (by decide) (by decide)
  rw [h, show (posS C3 6).toNat = 17 from by kernel_rfl]
theorem bit3_STOPPED {b : Nat} : bitV (valS C3 b : Int) 7 = b.testBit 18 := by
  have h := bit_valS (c := C3) (b := b) (j := 7) (by decide) (by decide)
  rw [h, show (posS C3 7).toNat = 18 from by kernel_rfl]
theorem ok_state {s : T25} (h : ok25 s) : ∃ l v p : Nat, s = ⟨(l : Int), (v : Int), (p : Int)⟩ ∧ l < 256 ∧ v < 256 ∧ p < 256 := by
  obtain ⟨h1, h2, h3⟩ := h
  obtain ⟨l, e1, g1⟩ := u8_nat h1
  obtain ⟨v, e2, g2⟩ := u8_nat h2
  obtain ⟨p, e3, g3⟩ := u8_nat h3
  obtain ⟨x, y, z⟩ := s
  simp only at e1 e2 e3
  subst e1 e2 e3
  exact ⟨l, v, p, rfl, g1, g2, g3⟩
theorem M7 : m7  = ((Option.bind (((m8 ).bind fun r1_0 => ((m9 r1_0 (16385 : Int)).bind fun r1_1 => some (r1_0, r1_1)))) fun (x1 : (T25 × (T25 × (List (List UInt8)) × Int))) => (Option.bind (Option.bind (m9 x1.2.1 (28 : Int)) fun r => some r) fun x2 => (Option.bind (((m15 x1.2.1).bind fun r3_0 => ((if (((r3_0 == ([82, 79, 76, 76, 32, 72, 79, 76, 68, 32, 84, 65, 75, 69, 79, 70, 70] : List UInt8)) && ((x1.2.2.1.length : Int) == (0 : Int))) && (x1.2.2.2 == (0 : Int))) = true then m15 x2.1 else some default).bind fun r3_1 => (if (((((r3_0 == ([82, 79, 76, 76, 32, 72, 79, 76, 68, 32, 84, 65, 75, 69, 79, 70, 70] : List UInt8)) && ((x1.2.2.1.length : Int) == (0 : Int))) && (x1.2.2.2 == (0 : Int))) && (r3_1 == ([78, 65, 86, 32, 72, 79, 76, 68, 32, 84, 65, 75, 69, 79, 70, 70] : List UInt8))) && ((x2.2.1.length : Int) == (1 : Int))) = true → (0 : Int) ≤ (0 : Int) then (if (((((r3_0 == ([82, 79, 76, 76, 32, 72, 79, 76, 68, 32, 84, 65, 75, 69, 79, 70, 70] : List UInt8)) && ((x1.2.2.1.length : Int) == (0 : Int))) && (x1.2.2.2 == (0 : Int))) && (r3_1 == ([78, 65, 86, 32, 72, 79, 76, 68, 32, 84, 65, 75, 69, 79, 70, 70] : List UInt8))) && ((x2.2.1.length : Int) == (1 : Int))) = true → (0 : Int) < (x2.2.1.length : Int) then some (r3_0, r3_1) else none) else none)))) fun (x3 : ((List UInt8) × (List UInt8))) => (some (((((((x3.1 == ([82, 79, 76, 76, 32, 72, 79, 76, 68, 32, 84, 65, 75, 69, 79, 70, 70] : List UInt8)) && ((x1.2.2.1.length : Int) == (0 : Int))) && (x1.2.2.2 == (0 : Int))) && (x3.2 == ([78, 65, 86, 32, 72, 79, 76, 68, 32, 84, 65, 75, 69, 79, 70, 70] : List UInt8))) && ((x2.2.1.length : Int) == (1 : Int))) && ((x2.2.1.getD (0 : Int).toNat default) == ([67, 65, 80, 84, 85, 82, 69, 68] : List UInt8))) && (x2.2.2 == (0 : Int))) : Option (Bool))))) : Option (Bool)) := by kernel_rfl
theorem wake1 : stepP 1 1 1 16385 = (⟨1, 1, 2⟩, [], 0) := by kernel_rfl
theorem wake2 : stepP 1 1 2 28 = (⟨4, 1, 2⟩, [[67, 65, 80, 84, 85, 82, 69, 68]], 0) := by kernel_rfl
theorem wake3 : m15 ⟨1, 1, 2⟩ = some [82, 79, 76, 76, 32, 72, 79, 76, 68, 32, 84, 65, 75, 69, 79, 70, 70] := by kernel_rfl
theorem wake4 : m15 ⟨4, 1, 2⟩ = some [78, 65, 86, 32, 72, 79, 76, 68, 32, 84, 65, 75, 69, 79, 70, 70] := by kernel_rfl
theorem start_eq : m8 = some ⟨1, 1, 1⟩ := by kernel_rfl
theorem awake_true : m7 = some true := by
  have e1 := Step_eqM (l := 1) (v := 1) (p := 1) (b := 16385) (by omega) (by omega) (by omega) (by omega)
  have e2 := Step_eqM (l := 1) (v := 1) (p := 2) (b := 28) (by omega) (by omega) (by omega) (by omega)
  rw [wake1] at e1
  rw [wake2] at e2
  simp only [Int.cast_ofNat_Int] at e1 e2
  have e3 := wake3
  have e4 := wake4
  have e5 := start_eq
  simp only [M7, bind_id]
  generalize m9 = F at e1 e2 ⊢
  generalize m15 = G at e3 e4 ⊢
  generalize m8 = S at e5 ⊢
  simp only [e5, bs, e1, e2, e3, e4]
  rfl
end Go.Av.Mo

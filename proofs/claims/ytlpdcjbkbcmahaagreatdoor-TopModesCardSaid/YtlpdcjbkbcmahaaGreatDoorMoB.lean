/- Bits of the charts' valuations; the first example of the chapter. -/
import Derived.Test.YtlpdcjbkbcmahaaGreatDoorMoS
set_option linter.unusedVariables false
set_option linter.unusedSimpArgs false
set_option maxRecDepth 1000000
namespace Go.Av.Mo
open Go.Av.Ch
theorem bit1_GROUND {b : Nat} : bitV (valS C1 b : Int) 0 = b.testBit 0 := by
  have h := bit_valS (c := C1) (b := b) (j := 0) (by decide) (by decide)
  rw [h, show (posS C1 0).toNat = 0 from by kernel_rfl]
theorem bit1_HEADING {b : Nat} : bitV (valS C1 b : Int) 1 = b.testBit 1 := by
  have h := bit_valS (c := C1) (b := b) (j := 1) (by decide) (by decide)
  rw [h, show (posS C1 1).toNat = 1 from by kernel_rfl]
theorem bit1_NAV {b : Nat} : bitV (valS C1 b : Int) 2 = b.testBit 2 := by
  have h := bit_valS (c := C1) (b := b) (j := 2) (by decide) (by decide)
  rw [h, show (posS C1 2).toNat = 2 from by kernel_rfl]
theorem bit1_READY {b : Nat} : bitV (valS C1 b : Int) 3 = b.testBit 3 := by
  have h := bit_valS (c := C1) (b := b) (j := 3) (by decide) (by decide)
  rw [h, show (posS C1 3).toNat = 3 from by kernel_rfl]
theorem bit1_ZONE {b : Nat} : bitV (valS C1 b : Int) 4 = b.testBit 4 := by
  have h := bit_valS (c := C1) (b := b) (j := 4) (by decide) (by decide)
  rw [h, show (posS C1 4).toNat = 4 from by kernel_rfl]
theorem bit1_FINAL {b : Nat} : bitV (valS C1 b : Int) 5 = b.testBit 5 := by
  have h := bit_valS (c := C1) (b := b) (j := 5) (by decide) (by decide)
  rw [h, show (posS C1 5).toNat = 5 from by kernel_rfl]
theorem bit1_GO {b : Nat} : bitV (valS C1 b : Int) 6 = b.testBit 6 := by
  have h := bit_valS (c := C1) (b := b) (j := 6) (by decide) (by decide)
  rw [h, show (posS C1 6).toNat = 6 from by kernel_rfl]
theorem bit2_GROUND {b : Nat} : bitV (valS C2 b : Int) 0 = b.testBit 0 := by
  have h := bit_valS (c := C2) (b := b) (j := 0) (by decide) (by decide)
  rw [h, show (posS C2 0).toNat = 0 from by kernel_rfl]
theorem bit2_READY {b : Nat} : bitV (valS C2 b : Int) 1 = b.testBit 3 := by
  have h := bit_valS (c := C2) (b := b) (j := 1) (by decide) (by decide)
  rw [h, show (posS C2 1).toNat = 3 from by kernel_rfl]
theorem bit2_FINAL {b : Nat} : bitV (valS C2 b : Int) 2 = b.testBit 5 := by
  have h := bit_valS (c := C2) (b := b) (j := 2) (by decide) (by decide)
  rw [h, show (posS C2 2).toNat = 5 from by kernel_rfl]
theorem bit2_GO {b : Nat} : bitV (valS C2 b : Int) 3 = b.testBit 6 := by
  have h := bit_valS (c := C2) (b := b) (j := 3) (by decide) (by decide)
  rw [h, show (posS C2 3).toNat = 6 from by kernel_rfl]
theorem bit2_HOLD {b : Nat} : bitV (valS C2 b : Int) 4 = b.testBit 7 := by
  have h := bit_valS (c := C2) (b := b) (j := 4) (by decide) (by decide)
  rw [h, show (posS C2 4).toNat = 7 from by kernel_rfl]
theorem bit2_SPEED {b : Nat} : bitV (valS C2 b : Int) 5 = b.testBit 8 := by
  have h := bit_valS (c := C2) (b := b) (j := 5) (by decide) (by decide)
  rw [h, show (posS C2 5).toNat = 8 from by kernel_rfl]
theorem bit2_CHANGE {b : Nat} : bitV (valS C2 b : Int) 6 = b.testBit 9 := by
  have h := bit_valS (c := C2) (b := b) (j := 6) (by decide) (by decide)
  rw [h, show (posS C2 6).toNat = 9 from by kernel_rfl]
theorem bit2_ABOVE {b : Nat} : bitV (valS C2 b : Int) 7 = b.testBit 10 := by
  have h := bit_valS (c := C2) (b := b) (j := 7) (by decide) (by decide)
  rw [h, show (posS C2 7).toNat = 10 from by kernel_rfl]
theorem bit2_TAKE {b : Nat} : bitV (valS C2 b : Int) 8 = b.testBit 11 := by
  have h := bit_valS (c := C2) (b := b) (j := 8) (by decide) (by decide)
  rw [h, show (posS C2 8).toNat = 11 from by kernel_rfl]
theorem bit2_NEAR {b : Nat} : bitV (valS C2 b : Int) 9 = b.testBit 12 := by
  have h := bit_valS (c := C2) (b := b) (j := 9) (by decide) (by decide)
  rw [h, show (posS C2 9).toNat = 12 from by kernel_rfl]
theorem bit2_AT {b : Nat} : bitV (valS C2 b : Int) 10 = b.testBit 13 := by
  have h := bit_valS (c := C2) (b := b) (j := 10) (by decide) (by decide)
  rw [h, show (posS C2 10).toNat = 13 from by kernel_rfl]
theorem bit3_GROUND {b : Nat} : bitV (valS C3 b : Int) 0 = b.testBit 0 := by
  have h := bit_valS (c := C3) (b := b) (j := 0) (by decide) (by decide)
  rw [h, show (posS C3 0).toNat = 0 from by kernel_rfl]
theorem bit3_FINAL {b : Nat} : bitV (valS C3 b : Int) 1 = b.testBit 5 := by
  have h := bit_valS (c := C3) (b := b) (j := 1) (by decide) (by decide)
  rw [h, show (posS C3 1).toNat = 5 from by kernel_rfl]
theorem bit3_GO {b : Nat} : bitV (valS C3 b : Int) 2 = b.testBit 6 := by
  have h := bit_valS (c := C3) (b := b) (j := 2) (by decide) (by decide)
  rw [h, show (posS C3 2).toNat = 6 from by kernel_rfl]
theorem bit3_THRUST {b : Nat} : bitV (valS C3 b : Int) 3 = b.testBit 14 := by
  have h := bit_valS (c := C3) (b := b) (j := 3) (by decide) (by decide)
  rw [h, show (posS C3 3).toNat = 14 from by kernel_rfl]
theorem bit3_ACCEL {b : Nat} : bitV (valS C3 b : Int) 4 = b.testBit 15 := by
  have h := bit_valS (c := C3) (b := b) (j := 4) (by decide) (by decide)
  rw [h, show (posS C3 4).toNat = 15 from by kernel_rfl]
theorem bit3_LEVEL {b : Nat} : bitV (valS C3 b : Int) 5 = b.testBit 16 := by
  have h := bit_valS (c := C3) (b := b) (j := 5) (by decide) (by decide)
  rw [h, show (posS C3 5).toNat = 16 from by kernel_rfl]
theorem bit3_DOWN {b : Nat} : bitV (valS C3 b : Int) 6 = b.testBit 17 := by
  have h := bit_valS (c := C3) (b := b) (j := 6) (by decide) (by decide)
  rw [h, show (posS C3 6).toNat = 17 from by kernel_rfl]
theorem bit3_STOPPED {b : Nat} : bitV (valS C3 b : Int) 7 = b.testBit 18 := by
  have h := bit_valS (c := C3) (b := b) (j := 7) (by decide) (by decide)
  rw [h, show (posS C3 7).toNat = 18 from by kernel_rfl]
theorem wake1 : stepP 1 1 1 16385 = (⟨1, 1, 2⟩, [], 0) := by kernel_rfl
theorem wake2 : stepP 1 1 2 28 = (⟨4, 1, 2⟩, [[67, 65, 80, 84, 85, 82, 69, 68]], 0) := by kernel_rfl
theorem start_eq : m17 = some ⟨1, 1, 1⟩ := by kernel_rfl
/-- What a step gives that is one. -/
theorem step_good {l v p b : Nat} (h : (stepP l v p b).2.2 = 0) : (1 ≤ l ∧ l ≤ 6) ∧ (1 ≤ v ∧ v ≤ 8) ∧ (1 ≤ p ∧ p ≤ 8) ∧ b < 524288 ∧ al1 b = true ∧ al2 b = true ∧ al3 b = true ∧
    stepP l v p b = (⟨(goS C1 l (valS C1 b)).1.Leaf, (goS C2 v (valS C2 b)).1.Leaf, (goS C3 p (valS C3 b)).1.Leaf⟩, (goS C1 l (valS C1 b)).2.1 ++ (goS C2 v (valS C2 b)).2.1 ++ (goS C3 p (valS C3 b)).2.1, 0) := by
  unfold stepP at h ⊢
  cases hval : validN l v p with
  | false => rw [hval, if_pos (show (!false) = true from rfl)] at h; exact absurd h (by decide)
  | true =>
    rw [hval] at h
    simp only [Bool.not_true, Bool.false_eq_true, if_false] at h ⊢
    simp only [validN, Bool.and_eq_true, decide_eq_true_eq] at hval
    by_cases hb : 524288 ≤ b
    · rw [if_pos hb] at h; exact absurd h (by decide)
    · rw [if_neg hb] at h ⊢
      cases ha : (al1 b && al2 b && al3 b) with
      | false => rw [ha, if_pos (show (!false) = true from rfl)] at h; exact absurd h (by decide)
      | true =>
        simp only [Bool.and_eq_true] at ha
        obtain ⟨⟨a1, a2⟩, a3⟩ := ha
        exact ⟨hval.1.1, hval.1.2, hval.2, by omega, a1, a2, a3, by simp⟩
theorem step_bad {l v p b : Nat} (h : validN l v p = true) : (stepP l v p b).2.2 = 0 ∨ (stepP l v p b).2.2 = 1 ∨ (stepP l v p b).2.2 = 11 := by
  unfold stepP
  rw [h]
  simp only [Bool.not_true, Bool.false_eq_true, if_false]
  by_cases hb : 524288 ≤ b
  · rw [if_pos hb]; exact .inr (.inl rfl)
  · rw [if_neg hb]
    by_cases ha : (!(al1 b && al2 b && al3 b)) = true
    · rw [if_pos ha]; exact .inr (.inr rfl)
    · rw [if_neg ha]; exact .inl rfl
end Go.Av.Mo

/- The chapter's examples, as numbers. -/
import Derived.Test.YtfgeoeipnidfhaaHullp
import Derived.Test.YtfgeoeipnidfhaaEq
namespace Go.Proofs.Ytfgeoeipnidfhaa
open Go.RowKit Go.Base Wg

theorem lev0 (a : Int) : levI [0] a = 0 ∧ levF [0] a = 0 ∧ levC [0] a = 1 := by
  have h : levI [0] a = 0 := by unfold levI; rw [levW]; simp
  refine ⟨h, rfl, rfl⟩
theorem chk_ex (cell : Int) (h1 : 1 ≤ cell) (h2 : cell ≤ 2000000) : chk (exG cell) = 0 := by
  have hv : vals (exG cell) = true := by
    simp [vals, exG, inPlane, inR, altOk, windOk, h1, h2]
  unfold chk
  rw [if_neg (by rw [show small (exG cell) = true from rfl]; decide), if_neg (by simp [counted, count, exG]), if_neg (by simp [hv]), if_neg (by rw [show ord (exG cell).alts = true from rfl]; decide)]
theorem atE_ex (cell x y : Int) (h1 : 1 ≤ cell) (h2 : cell ≤ 2000000) (hx : inPlane x y = true) : atE (exG cell) x y 0 = 0 := by
  unfold atE
  rw [if_pos (chk_ex cell h1 h2), hx]
  rfl
theorem atV_ex (p : Nat) (cell x y : Int) : atV p (exG cell) x y 0 = layV p (exG cell) (sideI 0 cell 2 x) (sideF 0 cell 2 x) cell (sideI 0 cell 1 y) (sideF 0 cell 1 y) cell 0 := by
  unfold atV allV
  have h := lev0 0
  show bl (levF [0] 0) _ (layV p (exG cell) (sideI 0 cell 2 x) (sideF 0 cell 2 x) cell (sideI 0 cell 1 y) (sideF 0 cell 1 y) cell (levI [0] 0 : Int)) _ = _
  rw [h.2.1, bl_zero, h.1]
  rfl
theorem ex1 : atP 0 (exG 10) 4 99 0 = 4 ∧ atP 1 (exG 10) 4 99 0 = -4 ∧ atE (exG 10) 4 99 0 = 0 := by
  have h := atE_ex 10 4 99 (by decide) (by decide) (by decide)
  refine ⟨?_, ?_, h⟩
  · unfold atP; rw [if_pos h, atV_ex]; decide
  · unfold atP; rw [if_pos h, atV_ex]; decide
theorem ex2 : atP 0 (exG 10) 25 0 0 = 10 ∧ atP 1 (exG 10) 25 0 0 = -10 ∧ atE (exG 10) 25 0 0 = 0 := by
  have h := atE_ex 10 25 0 (by decide) (by decide) (by decide)
  refine ⟨?_, ?_, h⟩
  · unfold atP; rw [if_pos h, atV_ex]; decide
  · unfold atP; rw [if_pos h, atV_ex]; decide
theorem ex3 : atP 0 (exG 7) 3 0 0 = 4 ∧ atP 1 (exG 7) 3 0 0 = -5 ∧ atE (exG 7) 3 0 0 = 0 := by
  have h := atE_ex 7 3 0 (by decide) (by decide) (by decide)
  refine ⟨?_, ?_, h⟩
  · unfold atP; rw [if_pos h, atV_ex]; decide
  · unfold atP; rw [if_pos h, atV_ex]; decide
theorem ex4 : hOut (exG 10) ⟨0, 0, 4, 0, 0, 0⟩ = .returned (.tuple #[.agg #[.int .i64 (-3), .int .i64 13, .int .i64 (-13), .int .i64 3], .agg #[.int .i64 0, .int .i64 0], .int .i64 0]) := by
  have hE : hullE (exG 10) ⟨0, 0, 4, 0, 0, 0⟩ = 0 := by unfold hullE; rw [if_pos (chk_ex 10 (by decide) (by decide))]; decide
  have h0 : hZ0 (exG 10) ⟨0, 0, 4, 0, 0, 0⟩ = 0 := by unfold hZ0; exact congrArg Int.ofNat (lev0 0).1
  have h1 : hZ1 (exG 10) ⟨0, 0, 4, 0, 0, 0⟩ = 0 := by
    have : (levI (exG 10).alts 0 : Int) = 0 := congrArg Int.ofNat (lev0 0).1
    unfold hZ1
    show min ((levI (exG 10).alts 0 : Int) + 1) ((1 : Int) - 1) = 0
    rw [this]; decide
  unfold hOut
  rw [if_pos hE]
  unfold hullR
  rw [h0, h1]
  have e0 : hullV 0 (exG 10) (hX0 (exG 10) ⟨0, 0, 4, 0, 0, 0⟩) (hX1 (exG 10) ⟨0, 0, 4, 0, 0, 0⟩) (hY0 (exG 10) ⟨0, 0, 4, 0, 0, 0⟩) (hY1 (exG 10) ⟨0, 0, 4, 0, 0, 0⟩) 0 0 = (0, 10) := by decide
  have e1 : hullV 1 (exG 10) (hX0 (exG 10) ⟨0, 0, 4, 0, 0, 0⟩) (hX1 (exG 10) ⟨0, 0, 4, 0, 0, 0⟩) (hY0 (exG 10) ⟨0, 0, 4, 0, 0, 0⟩) (hY1 (exG 10) ⟨0, 0, 4, 0, 0, 0⟩) 0 0 = (-10, 0) := by decide
  have e2 : hullV 2 (exG 10) (hX0 (exG 10) ⟨0, 0, 4, 0, 0, 0⟩) (hX1 (exG 10) ⟨0, 0, 4, 0, 0, 0⟩) (hY0 (exG 10) ⟨0, 0, 4, 0, 0, 0⟩) (hY1 (exG 10) ⟨0, 0, 4, 0, 0, 0⟩) 0 0 = (0, 0) := by decide
  rw [e0, e1, e2]
  rfl
end Go.Proofs.Ytfgeoeipnidfhaa

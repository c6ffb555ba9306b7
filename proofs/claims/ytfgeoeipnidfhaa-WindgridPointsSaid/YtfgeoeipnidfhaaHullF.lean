/- The answer of Hull, by its parts. -/
import Derived.Test.YtfgeoeipnidfhaaLawAt
namespace Go.Proofs.Ytfgeoeipnidfhaa
open Go.RowKit Go.Base Wg

theorem hout_form (g : Grid) (a : Ar) : ∃ b0 b1 b2 b3 d0 d1 er : Int, hOut g a = .returned (.tuple #[.agg #[.int .i64 b0, .int .i64 b1, .int .i64 b2, .int .i64 b3], .agg #[.int .i64 d0, .int .i64 d1], .int .i64 er]) ∧ er = hullE g a ∧
    (er ≠ 0 → b0 = 0 ∧ b1 = 0 ∧ b2 = 0 ∧ b3 = 0 ∧ d0 = 0 ∧ d1 = 0) ∧
    (er = 0 → b0 = (hullR 0 g a).1 - g.err ∧ b1 = (hullR 0 g a).2 + g.err ∧ b2 = (hullR 1 g a).1 - g.err ∧ b3 = (hullR 1 g a).2 + g.err ∧ d0 = (hullR 2 g a).1 ∧ d1 = (hullR 2 g a).2) := by
  by_cases h : hullE g a = 0
  · refine ⟨_, _, _, _, _, _, _, by unfold hOut; rw [if_pos h], h.symm, fun h => absurd rfl h, fun _ => ⟨rfl, rfl, rfl, rfl, rfl, rfl⟩⟩
  · refine ⟨_, _, _, _, _, _, _, hout_err h, rfl, fun _ => ⟨rfl, rfl, rfl, rfl, rfl, rfl⟩, fun h' => absurd h' h⟩
abbrev acells (a : Ar) : List Value := [.int .i64 a.ax, .int .i64 a.ay, .int .i64 a.bx, .int .i64 a.by_, .int .i64 a.lo, .int .i64 a.hi]
end Go.Proofs.Ytfgeoeipnidfhaa

/- A forecast as the program holds it; ranges and points. -/
import Derived.Test.YtfgeoeipnidfhaaRquo
import Derived.Test.YtfgeoeipnidfhaaWg
namespace Go.Proofs.Ytfgeoeipnidfhaa
open Go.RowKit Go.Base Wg

theorem bcell {W w1 : World} (hb : Below W.heap.size W w1) : (∀ b o, b < W.heap.size → w1.cell? ⟨b, o, none⟩ = W.cell? ⟨b, o, none⟩) ∧ (∀ b o, b < W.heap.size → w1.frozen? ⟨b, o, none⟩ = W.frozen? ⟨b, o, none⟩) :=
  ⟨fun b o h => hb.cell (p := ⟨b, o, none⟩) h, fun b o h => hb.frozen (p := ⟨b, o, none⟩) h⟩
def iv (n : Int) : Value := .int .i64 n
/-- The cells of a list of pairs. -/
def pv (l : List (Int × Int)) : List Value := l.flatMap fun p => [iv p.1, iv p.2]

theorem within_any (n lo hi : Int) (w : World) :
    Calls Try.prog 24 #[.int .i64 n, .int .i64 lo, .int .i64 hi] w fun e w' => e = .returned (.bool (inR n lo hi)) ∧ w = w' := by
  by_cases h1 : lo ≤ n <;> by_cases h2 : n ≤ hi
  all_goals
    go_enter Try.func24, Try.ntmps24
    go_wp2
    go_ret
    exact ⟨by simp [inR, *], rfl⟩
theorem inPlane_any (x y : Int) (w : World) :
    Calls Try.prog 23 #[.agg #[.int .i64 x, .int .i64 y]] w fun e w' => e = .returned (.bool (inPlane x y)) ∧ Ext w w' := by
  cases h1 : inR x (-2000000) 2000000 <;> cases h2 : inR y (-2000000) 2000000
  all_goals
    go_enter Try.func23, Try.ntmps23
    go_wp2_with (go_at_call 24; refine (within_any _ _ _ _).mono ?_; rintro e w' ⟨rfl, rfl⟩)
    go_ret
    exact ⟨by simp [inPlane, *], (Below.refl _ _).alloc (Nat.le_refl _) _⟩
theorem point_any (x y : Int) (w : World) :
    Calls Try.prog 36 #[.agg #[.int .i64 x, .int .i64 y]] w fun e w' => e = .returned (.bool (inPlane x y)) ∧ Ext w w' := by
  cases h1 : decide (-2000000 ≤ x) <;> cases h2 : decide (x ≤ 2000000) <;> cases h3 : decide (-2000000 ≤ y) <;> cases h4 : decide (y ≤ 2000000)
  all_goals
    go_enter Try.func36, Try.ntmps36
    go_wp2
    go_ret
    exact ⟨by simp [inPlane, inR, *], (Below.refl _ _).alloc (Nat.le_refl _) _⟩
end Go.Proofs.Ytfgeoeipnidfhaa

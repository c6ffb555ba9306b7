/- Facts about the three charts of modes. -/
import Derived.Test.YtlpdcjbkbcmahaaGreatDoorMoC
import Derived.Test.YtlpdcjbkbcmahaaGreatDoorChC
set_option linter.unusedVariables false
set_option linter.unusedSimpArgs false
set_option maxRecDepth 1000000
namespace Go.Av.Mo
open Go.Av.Ch
def fitB (c : T48) : Bool := decide (c.Conds.length ≤ 1000) && decide (c.Never.length ≤ 1000) && c.Never.all (fun l => decide (l.length ≤ 1000)) && decide (c.States.length ≤ 1000) && c.States.all (fun s => decide (s.Entry.length ≤ 1000) && decide (s.Exit.length ≤ 1000)) &&
  decide (c.Transitions.length ≤ 1000) && c.Transitions.all (fun t => decide (t.When.length ≤ 1000) && decide (t.Actions.length ≤ 1000))
theorem fit_of {c : T48} (h : fitB c = true) : Fit c := by
  simp only [fitB, Bool.and_eq_true, decide_eq_true_eq, List.all_eq_true] at h
  obtain ⟨⟨⟨⟨⟨⟨h1, h2⟩, h3⟩, h4⟩, h5⟩, h6⟩, h7⟩ := h
  exact ⟨h1, h2, h3, h4, fun s hs => (h5 s hs).1, fun s hs => (h5 s hs).2, h6, fun t ht => (h7 t ht).1, fun t ht => (h7 t ht).2⟩
theorem fit1 : Fit C1 := fit_of (by kernel_rfl)
theorem fit2 : Fit C2 := fit_of (by kernel_rfl)
theorem fit3 : Fit C3 := fit_of (by kernel_rfl)
theorem chk1 : checkM C1 = some 0 := by kernel_rfl
theorem chk2 : checkM C2 = some 0 := by kernel_rfl
theorem chk3 : checkM C3 = some 0 := by kernel_rfl
theorem lea1 : leavesS C1 = [1, 2, 3, 4, 5, 6] := by kernel_rfl
theorem lea2 : leavesS C2 = [1, 2, 3, 4, 5, 6, 7, 8] := by kernel_rfl
theorem lea3 : leavesS C3 = [1, 2, 3, 4, 5, 6, 7, 8] := by kernel_rfl
end Go.Av.Mo

/- The three axes, and others. -/
import Derived.Test.YtlpdcjbkbcmahaaGreatDoorMoP
set_option linter.unusedVariables false
set_option linter.unusedSimpArgs false
set_option maxRecDepth 1000000
namespace Go.Av.Mo
def outB (a : Int) : Bool := decide (a < 1) || decide (3 < a)
theorem axis_cases (a : Int) : outB a = true ∨ a = 1 ∨ a = 2 ∨ a = 3 := by
  cases h : outB a with
  | true => exact .inl rfl
  | false =>
    simp only [outB, Bool.or_eq_false_iff, decide_eq_false_iff_not] at h
    omega
def noChart : T48 := ⟨[], [], [], [], 0, []⟩
theorem M19 (a0 : Int) : m19 a0 = ((if ((decide (a0 < (1 : Int))) || (decide ((3 : Int) < a0))) = true then (some ((⟨([] : List UInt8), [], [], [], (0 : Int), []⟩ : T48), (1 : Int)) : Option (T48 × Int)) else (Option.bind (((m35 a0).bind fun r3_0 => ((m44 r3_0).bind fun r3_1 => some (r3_0, r3_1)))) fun (x3 : ((List UInt8) × (T48 × (List T136)))) => (some (x3.2.1, (0 : Int)) : Option (T48 × Int)))) : Option (T48 × Int)) := by kernel_rfl
theorem mChart_out {a : Int} (h : outB a = true) : m19 a = some (noChart, 1) := by
  unfold outB at h
  rw [M19, if_pos h]; rfl
end Go.Av.Mo

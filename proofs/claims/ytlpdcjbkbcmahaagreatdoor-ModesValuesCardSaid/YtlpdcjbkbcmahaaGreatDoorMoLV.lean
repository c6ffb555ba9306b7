/- The law of valuations in plain terms. -/
import Derived.Test.YtlpdcjbkbcmahaaGreatDoorMoU
import Derived.Test.YtlpdcjbkbcmahaaGreatDoorMoW
set_option linter.unusedVariables false
set_option linter.unusedSimpArgs false
namespace Go.Av
open Ch Mo
theorem M5 (a0 a1 : Int) : m5 a0 a1 = ((Option.bind (Option.bind (m10) fun r => some r) fun x1 => (if (!x1) = true then (some false : Option (Bool)) else (Option.bind (Option.bind (m18 a0 a1) fun r => some r) fun x3 => (Option.bind (Option.bind (m23 a0 a1) fun r => some r) fun x4 => (some ((x3.1 == x4.1) && (x3.2 == x4.2)) : Option (Bool)))))) : Option (Bool)) := by kernel_rfl
theorem plain5 {a c : Int} (ha : (Lit.int .i64 a).wf = true) (hc : (Lit.int .u32 c).wf = true) : m5 a c = some true := by
  obtain ⟨b, rfl, hb⟩ := u32_nat hc
  obtain ⟨r, h1, h2⟩ := Valuation_all a hb
  have hw := awake_true
  simp only [M5, bind_id]
  generalize m10 = A at hw ⊢
  simp only [hw, bs, h1, h2, Bool.not_true, Bool.false_eq_true, if_false, beq_self_eq_true, Bool.and_self]
end Go.Av

/- The specification's chart of an axis is read from its text. -/
import Derived.Test.YtlpdcjbkbcmahaaGreatDoorMoP
set_option maxRecDepth 1000000
namespace Go.Av.Mo
noncomputable def src1 : List UInt8 := (m36 1).getD []
theorem src1_eq : m36 1 = some src1 := by kernel_rfl
theorem rRead1 : m101o0 src1 = some ([], linesX 1 (linesS src1)) := by
  have h := Lines_eq src1 (of_decide_eq_true (by kernel_rfl))
  rw [M101o0, h]
  show _ = some _
  kernel_rfl
theorem rParse1 : m63 src1 = some (C1, []) := by
  rw [M63, rRead1]
  show _ = some _
  kernel_rfl
theorem rread1 : (m37 1) = some (C1, 0) := by
  have h := rParse1
  have h2 := src1_eq
  rw [M37]
  generalize m63 = F at h ⊢
  generalize m36 = G at h2 ⊢
  rw [if_neg (by decide), h2, Option.bind_some, h]; rfl
end Go.Av.Mo

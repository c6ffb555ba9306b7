/- The specification's chart of an axis is read from its text. -/
import Derived.Test.YtlpdcjbkbcmahaaGreatDoorMoP
set_option maxRecDepth 1000000
namespace Go.Av.Mo
noncomputable def src3 : List UInt8 := (m36 3).getD []
theorem src3_eq : m36 3 = some src3 := by kernel_rfl
theorem rRead3 : m101o0 src3 = some ([], linesX 1 (linesS src3)) := by
  have h := Lines_eq src3 (of_decide_eq_true (by kernel_rfl))
  rw [M101o0, h]
  show _ = some _
  kernel_rfl
theorem rParse3 : m63 src3 = some (C3, []) := by
  rw [M63, rRead3]
  show _ = some _
  kernel_rfl
theorem rread3 : (m37 3) = some (C3, 0) := by
  have h := rParse3
  have h2 := src3_eq
  rw [M37]
  generalize m63 = F at h ⊢
  generalize m36 = G at h2 ⊢
  rw [if_neg (by decide), h2, Option.bind_some, h]; rfl
end Go.Av.Mo

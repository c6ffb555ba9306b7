/- The specification's chart of an axis is read from its text. -/
import Derived.Test.YtlpdcjbkbcmahaaGreatDoorMoP
set_option maxRecDepth 1000000
namespace Go.Av.Mo
noncomputable def src2 : List UInt8 := (m36 2).getD []
theorem src2_eq : m36 2 = some src2 := by kernel_rfl
theorem rRead2 : m101o0 src2 = some ([], linesX 1 (linesS src2)) := by
  have h := Lines_eq src2 (of_decide_eq_true (by kernel_rfl))
  rw [M101o0, h]
  show _ = some _
  kernel_rfl
theorem rParse2 : m63 src2 = some (C2, []) := by
  rw [M63, rRead2]
  show _ = some _
  kernel_rfl
theorem rread2 : (m37 2) = some (C2, 0) := by
  have h := rParse2
  have h2 := src2_eq
  rw [M37]
  generalize m63 = F at h ⊢
  generalize m36 = G at h2 ⊢
  rw [if_neg (by decide), h2, Option.bind_some, h]; rfl
end Go.Av.Mo

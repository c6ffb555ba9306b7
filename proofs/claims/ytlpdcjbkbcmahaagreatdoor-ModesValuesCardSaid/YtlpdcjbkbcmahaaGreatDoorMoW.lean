/- The chapter's first example. -/
import Derived.Test.YtlpdcjbkbcmahaaGreatDoorMoT
import Derived.Test.YtlpdcjbkbcmahaaGreatDoorMoR1
import Derived.Test.YtlpdcjbkbcmahaaGreatDoorMoR2
import Derived.Test.YtlpdcjbkbcmahaaGreatDoorMoR3
set_option linter.unusedVariables false
set_option linter.unusedSimpArgs false
set_option maxRecDepth 1000000
namespace Go.Av.Mo
theorem M10 : m10  = ((Option.bind (((m17 ).bind fun r1_0 => ((m11 r1_0 (16385 : Int)).bind fun r1_1 => some (r1_0, r1_1)))) fun (x1 : (T23 × (T23 × (List (List UInt8)) × Int))) => (Option.bind (Option.bind (m11 x1.2.1 (28 : Int)) fun r => some r) fun x2 => (Option.bind (((m25 x1.2.1).bind fun r3_0 => ((if (((r3_0 == ([82, 79, 76, 76, 32, 72, 79, 76, 68, 32, 84, 65, 75, 69, 79, 70, 70] : List UInt8)) && ((x1.2.2.1.length : Int) == (0 : Int))) && (x1.2.2.2 == (0 : Int))) = true then m25 x2.1 else some default).bind fun r3_1 => (if (((((r3_0 == ([82, 79, 76, 76, 32, 72, 79, 76, 68, 32, 84, 65, 75, 69, 79, 70, 70] : List UInt8)) && ((x1.2.2.1.length : Int) == (0 : Int))) && (x1.2.2.2 == (0 : Int))) && (r3_1 == ([78, 65, 86, 32, 72, 79, 76, 68, 32, 84, 65, 75, 69, 79, 70, 70] : List UInt8))) && ((x2.2.1.length : Int) == (1 : Int))) = true → (0 : Int) ≤ (0 : Int) then (if (((((r3_0 == ([82, 79, 76, 76, 32, 72, 79, 76, 68, 32, 84, 65, 75, 69, 79, 70, 70] : List UInt8)) && ((x1.2.2.1.length : Int) == (0 : Int))) && (x1.2.2.2 == (0 : Int))) && (r3_1 == ([78, 65, 86, 32, 72, 79, 76, 68, 32, 84, 65, 75, 69, 79, 70, 70] : List UInt8))) && ((x2.2.1.length : Int) == (1 : Int))) = true → (0 : Int) < (x2.2.1.length : Int) then some (r3_0, r3_1) else none) else none)))) fun (x3 : ((List UInt8) × (List UInt8))) => (some (((((((x3.1 == ([82, 79, 76, 76, 32, 72, 79, 76, 68, 32, 84, 65, 75, 69, 79, 70, 70] : List UInt8)) && ((x1.2.2.1.length : Int) == (0 : Int))) && (x1.2.2.2 == (0 : Int))) && (x3.2 == ([78, 65, 86, 32, 72, 79, 76, 68, 32, 84, 65, 75, 69, 79, 70, 70] : List UInt8))) && ((x2.2.1.length : Int) == (1 : Int))) && ((x2.2.1.getD (0 : Int).toNat default) == ([67, 65, 80, 84, 85, 82, 69, 68] : List UInt8))) && (x2.2.2 == (0 : Int))) : Option (Bool))))) : Option (Bool)) := by kernel_rfl
theorem names_len : ∃ nl, m33 = some nl ∧ nl.length = 19 := ⟨(m33).getD [], by kernel_rfl, by kernel_rfl⟩
theorem wakeS1 : m11 ⟨1, 1, 1⟩ 16385 = some (⟨1, 1, 2⟩, [], 0) := by
  obtain ⟨nl, hn, hl⟩ := names_len
  exact Step_of (g1 := (⟨1, [-1, -1, -1, -1, -1, -1, -1]⟩, [], 0)) (g2 := (⟨1, [-1, -1, -1, -1, -1, -1, -1, -1, -1]⟩, [], 0)) (g3 := (⟨2, [-1, -1, -1, -1, -1, -1, -1, -1, -1]⟩, [], 0)) (v1 := 1) (v2 := 1) (v3 := 9) (q1 := [-1, -1, -1, -1, -1, -1, -1]) (q2 := [-1, -1, -1, -1, -1, -1, -1, -1, -1]) (q3 := [-1, -1, -1, -1, -1, -1, -1, -1, -1]) (by kernel_rfl) hn (by omega) (by rw [hl]; rfl) read1 read2 read3 (by kernel_rfl) (by kernel_rfl) (by kernel_rfl) (by kernel_rfl) (by kernel_rfl) (by kernel_rfl) (by kernel_rfl) (by kernel_rfl) (by kernel_rfl) rfl rfl rfl (by decide) (by decide) (by decide) (by decide) (by decide) (by decide) (by decide) (by decide) (by decide)
theorem wakeS2 : m11 ⟨1, 1, 2⟩ 28 = some (⟨4, 1, 2⟩, [[67, 65, 80, 84, 85, 82, 69, 68]], 0) := by
  obtain ⟨nl, hn, hl⟩ := names_len
  exact Step_of (g1 := (⟨4, [-1, -1, -1, -1, -1, -1, -1]⟩, [[67, 65, 80, 84, 85, 82, 69, 68]], 0)) (g2 := (⟨1, [-1, -1, -1, -1, -1, -1, -1, -1, -1]⟩, [], 0)) (g3 := (⟨2, [-1, -1, -1, -1, -1, -1, -1, -1, -1]⟩, [], 0)) (v1 := 28) (v2 := 2) (v3 := 0) (q1 := [-1, -1, -1, -1, -1, -1, -1]) (q2 := [-1, -1, -1, -1, -1, -1, -1, -1, -1]) (q3 := [-1, -1, -1, -1, -1, -1, -1, -1, -1]) (by kernel_rfl) hn (by omega) (by rw [hl]; rfl) read1 read2 read3 (by kernel_rfl) (by kernel_rfl) (by kernel_rfl) (by kernel_rfl) (by kernel_rfl) (by kernel_rfl) (by kernel_rfl) (by kernel_rfl) (by kernel_rfl) rfl rfl rfl (by decide) (by decide) (by decide) (by decide) (by decide) (by decide) (by decide) (by decide) (by decide)
theorem wakeT1 : m25 ⟨1, 1, 2⟩ = some [82, 79, 76, 76, 32, 72, 79, 76, 68, 32, 84, 65, 75, 69, 79, 70, 70] := by kernel_rfl
theorem wakeT2 : m25 ⟨4, 1, 2⟩ = some [78, 65, 86, 32, 72, 79, 76, 68, 32, 84, 65, 75, 69, 79, 70, 70] := by kernel_rfl
theorem start_eq : m17 = some ⟨1, 1, 1⟩ := by kernel_rfl
theorem awake_true : m10 = some true := by
  have e1 := wakeS1
  have e2 := wakeS2
  have e3 := wakeT1
  have e4 := wakeT2
  have e5 := start_eq
  simp only [M10, bind_id]
  generalize m11 = F at e1 e2 ⊢
  generalize m25 = G at e3 e4 ⊢
  generalize m17 = S at e5 ⊢
  simp only [e5, bs, e1, e2, e3, e4]
  rfl
end Go.Av.Mo
